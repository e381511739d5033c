/-
  CisRounds: half a turn more is the opposite, a whole one the same, and a turn is about 4096 long: for every j of 16 bits the law answers true. The condition: the table of cosines reads as the program's text lays it (tied).
-/
import Derived.Test.YtmcjbejccelagaaDoorCisR
import Derived.Test.YtmcjbejccelagaaDoorLaw
import Derived.Test.YtmcjbejccelagaaDoorCards
import Derived.Test.YtmcjbejccelagaaDoorTie
import Derived.SevenTiedAt
namespace Go.Proofs.YtmcjbejccelagaaDoor
open Go.ChangeShapes Go.WideShapes Go.ChangeAt Go.WideMaps Go.WideElems Go.RowKit

theorem ownKnob_none : ownKnob Tryd.prog.godebug = none := by kernel_rfl
theorem laidOut_ok : laidOutB Tryd.prog = true := by kernel_rfl
theorem cosines_of {W : World} {rest : List (String × DataW Unit)} (h : laidMet Tryd.prog (("spinet/cis.cosines", Rows.laid_spinet_cis_cosines) :: rest) W) : CosW W := by
  have hT := Lib.tabIs_of_head (P := Tryd.prog) (g := 1) (t := 128) (e := 2) (n := 65) (k := .i64) (zs := cosL) (by kernel_rfl) (by kernel_rfl) Tryd.underlying128 Tryd.underlying2 (by kernel_rfl) (by kernel_rfl) h
  have hc := fun i hi => hT.cell (g := 1) (by kernel_rfl) i hi
  exact ⟨World.block_lt_of_cell? W ⟨1, 0, none⟩ (hc 0 (by decide)), hc⟩

set_option maxRecDepth 100000 in
theorem cisRounds_lifted (os : Os) (started : os.Started) (H : Type) (enc : TypeId × Value → H) :
    ReturnsInHanded {} Tryd.checked os 5 .any (fun w args => (Rows.cisRoundsSpec.pre enc Tryd.prog Tryd.f5 [] false w args ∧ laidMetH Tryd.prog Rows.cisRoundsRow.laid w) ∧ sizedMet enc Tryd.prog Tryd.f5 (OpenSpec.ofChange Rows.cisRoundsSpec) false w args)
      (Rows.cisRoundsSpec.post enc Tryd.prog Tryd.f5 false true false false) := by
  refine returnsInHanded_of_change_and (C := Tryd.checked) (X := fun w _ => laidMetH Tryd.prog Rows.cisRoundsRow.laid w) (fun _ _ _ hh h => h.of_heap hh) ownKnob_none started (by kernel_rfl) Tryd.func5
    (ChangeSpec.witness_shaped (enc := enc) (C := Tryd.checked) (os := os) (X := fun w _ => laidMetH Tryd.prog Rows.cisRoundsRow.laid w) false (World.doorLaid Tryd.prog 400 os) #[.int .i16 0] 8 rfl (World.shaped_of_RefB (by kernel_rfl) (by kernel_rfl)) (by kernel_rfl) (by kernel_rfl) (by kernel_rfl)
      (laidMetH_of_parts3 (fuel := 8) (laidMet_of_run' 8 (by kernel_rfl) (by kernel_rfl)) (by kernel_rfl) (by kernel_rfl))) ?_
  intro W base args ds gs before hval0 hW _ _ hL _
  have hval : ∀ (j : Nat) t v, Tryd.f5.params[j]? = some t → args[j]? = some v → Value.okWide Tryd.prog W .any base t v := hval0
  have hW' := hW
  obtain ⟨p, q, hA0, hV, rfl, hfz, hnd⟩ := hW
  have hA : DataW.TrodAll enc Tryd.prog W 0 (fun _ => true) true Tryd.f5.params.toList args.toList ds p := hA0
  have hA2 := hA
  rw [Tryd.params5] at hA hval
  obtain ⟨v0, d0, rfl, rfl, h0⟩ := trodAll_one hA
  obtain ⟨rfl, rfl⟩ := trodVars_none hV
  obtain ⟨j, rfl, rfl, rfl, wj⟩ := open_int Tryd.underlying55 (hval 0 55 v0 rfl rfl) h0
  rw [MakeChecks.laidMetH_plain _ _ _ (by kernel_rfl)] at hL
  have hT : CosW W := cosines_of hL
  simp only [List.append_nil] at hW'
  refine (rounds_walk j (by have := bounds_i16 wj; omega) W hT).mono fun e W' ⟨he, hb⟩ => ?_
  subst he
  have hlt : ∀ x ∈ ([] : List MemPlace), x.block < W.heap.size := fun x hx => by cases hx
  have e1 : Rows.cisRoundsSpec.fn H ([.lit (.int .i16 j)] ++ []) = { results := [.lit (.bool true)], args := [.lit (.int .i16 j)] } := by simp [Rows.cisRoundsSpec]
  refine ⟨_, rfl, _, _, _, [], [] ++ [], [], hW', ?_, ?_, ?_, hb.frame _, fun h => by cases h⟩
  · rw [e1]; exact trodAll_mk1 (shut_bool Tryd.underlying4 _)
  · rw [e1]; exact trodAll_below laidOut_ok hb _ _ _ _ (by kernel_rfl) hA2 hlt
  · rw [e1]; rfl

theorem cisRounds_holds : Rows.CisRoundsSaid :=
  OpenClaim.holds_of_wide 5 Tryd.f5 rfl rfl rfl rfl rfl rfl rfl ⟨rfl, rfl, rfl, rfl, rfl⟩ rfl rfl rfl rfl rfl (by kernel_rfl) Tryd.func5 (by kernel_rfl)
    (of_decide_eq_true (by kernel_rfl)) (by unfold Func.isWrapper; rw [if_neg (of_decide_eq_false (by kernel_rfl))]; exact ⟨rfl, rfl⟩)
    (fun os started H enc _ => cisRounds_lifted os started H enc)

theorem cisRounds_card : Rows.CisRoundsCardSaid :=
  Claim7.holds_tied_plain_at .later [] [.data] true (true, "afcb1a8be3a03c4a2f6d0e7de4c5c372479681309a25fd15814696aeb44f375e") false
    cisRounds_holds (fun _ h => by cases h) (by kernel_rfl) (fun _ h => by cases h) cisRounds_row_tie rfl ⟨rfl, rfl⟩ (by kernel_rfl) rfl
    (fun f fn hf hfn => by
      obtain rfl : f = 5 := Option.some.inj ((show Tryd.prog.funcNamed "spinet/spinetlaw20.CisRounds" = some 5 by kernel_rfl).symm.trans hf) |>.symm
      obtain rfl : fn = Tryd.f5 := (Option.some.inj (Tryd.func5.symm.trans hfn)).symm
      exact ⟨by kernel_rfl, fun j t ht => by
        rw [Tryd.params5] at ht
        have hm : t ∈ [55] := by simpa using Array.mem_of_getElem? ht
        have hall : ([55].all fun u => !Tryd.prog.wantsStandIn u) = true := by kernel_rfl
        exact (show Tryd.prog.wantsStandIn t = false by simpa using List.all_eq_true.1 hall t hm)⟩)
    (by kernel_rfl)
end Go.Proofs.YtmcjbejccelagaaDoor
