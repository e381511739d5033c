/-
  CisAdds: the direct sum of two lists, added up, is that of the lists added up, up to 16 pairs from -2^40 to 2^40. For every input. The condition: the table of cosines reads as the program's text lays it (tied).
-/
import Derived.Test.YtmcjbejccelagaaDoorCisAd
import Derived.Test.YtmcjbejccelagaaDoorWf
import Derived.Test.YtmcjbejccelagaaDoorFlatS
import Derived.Test.YtmcjbejccelagaaDoorLaw
import Derived.Test.YtmcjbejccelagaaDoorLaid
import Derived.Test.YtmcjbejccelagaaDoorCards
import Derived.Test.YtmcjbejccelagaaDoorTie
import Derived.SevenTiedAt
namespace Go.Proofs.YtmcjbejccelagaaDoor
open Go.ChangeShapes Go.WideShapes Go.ChangeAt Go.WideMaps Go.WideElems Go.RowKit

set_option maxRecDepth 100000 in
theorem cisAdds_lifted (os : Os) (started : os.Started) (H : Type) (enc : TypeId × Value → H) :
    ReturnsInHanded {} Tryd.checked os 6 .any (fun w args => (Rows.cisAddsSpec.pre enc Tryd.prog Tryd.f6 [] false w args ∧ laidMetH Tryd.prog Rows.cisAddsRow.laid w) ∧ sizedMet enc Tryd.prog Tryd.f6 (OpenSpec.ofChange Rows.cisAddsSpec) false w args)
      (Rows.cisAddsSpec.post enc Tryd.prog Tryd.f6 false true false false) := by
  refine returnsInHanded_of_change_and (C := Tryd.checked) (X := fun w _ => laidMetH Tryd.prog Rows.cisAddsRow.laid w) (fun _ _ _ hh h => h.of_heap hh) (by kernel_rfl) started (by kernel_rfl) Tryd.func6
    (ChangeSpec.witness_shaped (enc := enc) (C := Tryd.checked) (os := os) (X := fun w _ => laidMetH Tryd.prog Rows.cisAddsRow.laid w) false (World.doorLaid Tryd.prog 400 os) #[.slice none 0 0] 8 rfl (World.shaped_of_RefB (by kernel_rfl) (by kernel_rfl)) (by kernel_rfl) (by kernel_rfl) (by kernel_rfl)
      (laidMetH_of_parts3 (fuel := 8) (laidMet_of_run' 8 (by kernel_rfl) (by kernel_rfl)) (by kernel_rfl) (by kernel_rfl))) ?_
  intro W base args ds gs before hval0 hW _ _ hL _
  have hval : ∀ (j : Nat) t v, Tryd.f6.params[j]? = some t → args[j]? = some v → Value.okWide Tryd.prog W .any base t v := hval0
  have hW' := hW
  obtain ⟨p, q, hA0, hV, rfl, hfz, hnd⟩ := hW
  have hA : DataW.TrodAll enc Tryd.prog W 0 (fun _ => true) true Tryd.f6.params.toList args.toList ds p := hA0
  have hA2 := hA
  rw [Tryd.params6] at hA hval
  obtain ⟨v0, d0, rfl, rfl, h0⟩ := trodAll_one hA
  obtain ⟨rfl, rfl⟩ := trodVars_none hV
  obtain ⟨A, len, cap, rfl, hle, hm, hcs⟩ := open_flat_slice 4 [.int .i64, .int .i64, .int .i64, .int .i64] Tryd.underlying58 (by kernel_rfl) (by decide) (hval 0 58 v0 rfl rfl) h0
  have hic := int_cells hcs
  rw [MakeChecks.laidMetH_plain _ _ _ (by kernel_rfl)] at hL
  have hT : CosW W := cosines_of hL
  simp only [List.append_nil] at hW'
  refine (cisAdds_any len A cap (fun i => (intCell W A (i * 4), intCell W A (i * 4 + 1))) (fun i => (intCell W A (i * 4 + 2), intCell W A (i * 4 + 3))) W hT (by unfold maxLen at hm; omega) (fun hp => by
    obtain ⟨b, off, hA, hb, hc⟩ := hic hp
    exact ⟨b, off, hA, hb, fun i hi => ⟨(hc i hi 0 .i64 rfl).1, (hc i hi 1 .i64 rfl).1, (hc i hi 2 .i64 rfl).1, (hc i hi 3 .i64 rfl).1⟩⟩)).mono fun e W' ⟨he, hb⟩ => ?_
  subst he
  have e1 : Rows.cisAddsSpec.fn H ([d0] ++ []) = { results := [.lit (.bool true)], args := [d0] } := by simp [Rows.cisAddsSpec]
  refine ⟨_, rfl, _, _, _, [], p, [], hW', ?_, ?_, ?_, hb.frame _, fun h => by cases h⟩
  · rw [e1]; exact trodAll_mk1 (shut_bool Tryd.underlying4 _)
  · rw [e1]; exact trodAll_below (by kernel_rfl) hb _ _ _ _ (by kernel_rfl) hA2 (fun x hx => by simpa using hW'.lt x (by simpa using hx))
  · rw [e1]; rfl

theorem cisAdds_holds : Rows.CisAddsSaid :=
  OpenClaim.holds_of_wide 6 Tryd.f6 rfl rfl rfl rfl rfl rfl rfl ⟨rfl, rfl, rfl, rfl, rfl⟩ rfl rfl rfl rfl rfl (by kernel_rfl) Tryd.func6 (by kernel_rfl)
    (of_decide_eq_true (by kernel_rfl)) (by unfold Func.isWrapper; rw [if_neg (of_decide_eq_false (by kernel_rfl))]; exact ⟨rfl, rfl⟩)
    (fun os started H enc _ => cisAdds_lifted os started H enc)

theorem cisAdds_card : Rows.CisAddsCardSaid :=
  Claim7.holds_tied_plain_at .later [] [.data] true (true, "afcb1a8be3a03c4a2f6d0e7de4c5c372479681309a25fd15814696aeb44f375e") false
    cisAdds_holds (fun _ h => by cases h) (by kernel_rfl) (fun _ h => by cases h) cisAdds_row_tie rfl ⟨rfl, rfl⟩ (by kernel_rfl) rfl
    (fun f fn hf hfn => by
      obtain rfl : f = 6 := Option.some.inj ((show Tryd.prog.funcNamed "spinet/spinetlaw20.CisAdds" = some 6 by kernel_rfl).symm.trans hf) |>.symm
      obtain rfl : fn = Tryd.f6 := (Option.some.inj (Tryd.func6.symm.trans hfn)).symm
      exact ⟨by kernel_rfl, fun j t ht => by
        rw [Tryd.params6] at ht
        have hm : t ∈ [58] := by simpa using Array.mem_of_getElem? ht
        have hall : ([58].all fun u => !Tryd.prog.wantsStandIn u) = true := by kernel_rfl
        exact (show Tryd.prog.wantsStandIn t = false by simpa using List.all_eq_true.1 hall t (by simpa using hm))⟩)
    (by kernel_rfl)
end Go.Proofs.YtmcjbejccelagaaDoor
