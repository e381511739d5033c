/-
  StateTells: whether any state may be, and the peaks of its histories, are what the document says; in a mode that isn't right nothing is played, and nothing made up. For every input. The condition: the table of fades reads as the program's text lays it (tied).
  (One text out of these parts: StTells, Law, LaidF, StateTellsRow.)
-/
import Derived.Test.YtcibajleknhklaaDoorMstc
import Derived.ProofKit
import Derived.LaidMore
import Derived.OpenShut
import Derived.Stop.Joined
import Derived.Lib.LaidTab
import Derived.Test.YtcibajleknhklaaDoorRows
import Derived.Test.YtcibajleknhklaaDoorCards
import Derived.Test.YtcibajleknhklaaDoorTie
import Derived.SevenTiedAt
section
namespace Go.Proofs.YtcibajleknhklaaDoor
open Go.RowKit Go.BigFrame Go.Proofs.YtcibajleknhklaaDoorW.PrintWords Go.Proofs.YtcibajleknhklaaDoorW.PrintLast Go.Proofs.YtcibajleknhklaaDoorW.PrintMore
open PStateTells RStateTells
set_option linter.unusedSimpArgs false
set_option linter.unusedVariables false
set_option maxHeartbeats 4000000 in
set_option maxRecDepth 100000 in
theorem lose_not (st : Nat → Int) (s c : Int) (h : ¬ RightP s c) (w : World) :
    Calls Tryd.prog 49 #[.agg (ag kS 142 st), .agg #[.int .i64 s, .int .i64 c]] w fun e w' => e = .returned (.tuple #[.agg (ag kS 142 st), .slice none 0 0]) ∧ Below w.heap.size w w' := by
  have hRt := Lib.hid (fun w => modeRight s c w)
  rw [decide_eq_false h] at hRt
  clear h
  go_enter Tryd.func49, Tryd.ntmps49
  go_upto_region 2 with (go_at_call 86; refine (hRt.out _).mono ?_; rintro e w' ⟨rfl, hb1⟩; obtain ⟨x1, rfl⟩ := below_as_grew hb1; clear hb1)
  refine cut_world (fun V => LS w w.heap.size st s c V) ⟨by (repeat' (first | (with_reducible exact Below.refl _ _) | (with_reducible assumption) | (with_reducible refine Below.alloc ?_ ?_ _) | (with_reducible refine below_grew ?_ ?_ _) | (with_reducible refine Below.setCell ?_ ?_ _) | (with_reducible refine Below.drew ?_) | (with_reducible refine below_drewN ?_ _) | omega | (simp; done) | (simp; omega))), by simp; omega, (World.grew_block _ _ _ (by simp; omega)).trans (alloc_three _ _ _ _), (World.grew_block _ _ _ (by simp)).trans (alloc_second _ _ _ _), (World.grew_block _ _ _ (by simp)).trans (alloc_third _ _ _ _)⟩ ?_
  intro V hV
  generalize hBd : w.heap.size = B at *
  have HBd := Lib.hid hBd
  have HV := Lib.hid hV
  clear hBd hV
  go_wp2_with (first | (refine load_row_g rfl St _ rfl B rfl _ (ag kS 142 st) (0, 0) _ HV.out.st Tryd.underlying97 rfl ?hin ?_; (case hin => exact infoS_ag _)) | (refine wpList_store_mid rfl St _ _ rfl (B + 1 + 1) 0 (ag kS 142 st) rfl rfl ?hth ?hin ?hon ?_; (case hth => exact there_row HV.out.rz _ (zeroS_le _)); (case hin => exact infoS_ag _); (case hon => exact ag_one kS 142 _)))
  have q1 := cells_all HV.out.rz (N := 142) zeroS_size (cs := ag kS 142 st) (ag_size _ _ _)
  have hfin : Below w.heap.size w (V.setCells (B + 1 + 1) 0 (ag kS 142 st).toList) := (only_setCells _ _ _ _).below (HV.out.below' (Nat.le_of_eq HBd.out)) (by rw [HBd.out]; omega)
  refine bodyPost_ret (v := .tuple #[.agg (ag kS 142 st), .slice none 0 0]) ?_ rfl ⟨rfl, by rw [HBd.out] at hfin ⊢; exact hfin⟩
  exact results_row_tmp rfl _ _ (B + 1 + 1) _ _ _ _ _ rfl rfl q1 Tryd.underlying97 rfl (infoS_ag _)
set_option maxHeartbeats 4000000 in
set_option maxRecDepth 100000 in
theorem play_not (st : Nat → Int) (s c : Int) (h : ¬ RightP s c) (zf zs : Array Value) (sd : Int) (w : World) :
    Calls Tryd.prog 48 #[.agg (ag kS 142 st), .agg #[.int .i64 s, .int .i64 c], .agg zf, .agg zs, .int .u32 sd] w fun e w' => e = .returned (.tuple #[.agg (ag kS 142 st), .slice none 0 0]) ∧ Below w.heap.size w w' := by
  have hRt := Lib.hid (fun w => modeRight s c w)
  rw [decide_eq_false h] at hRt
  clear h
  go_enter Tryd.func48, Tryd.ntmps48
  go_upto_region 2 with (go_at_call 86; refine (hRt.out _).mono ?_; rintro e w' ⟨rfl, hb1⟩; obtain ⟨x1, rfl⟩ := below_as_grew hb1; clear hb1)
  refine cut_world (fun V => Below w.heap.size w V ∧ w.heap.size + 4 < V.heap.size ∧ Bx w.heap.size St kS 142 st V ∧ V.heap[w.heap.size + 4]? = some (.cells Tryd.zeroCells97 St (0, 0))) ⟨by (repeat' (first | (with_reducible exact Below.refl _ _) | (with_reducible assumption) | (with_reducible refine Below.alloc ?_ ?_ _) | (with_reducible refine below_grew ?_ ?_ _) | (with_reducible refine Below.setCell ?_ ?_ _) | (with_reducible refine Below.drew ?_) | (with_reducible refine below_drewN ?_ _) | omega | (simp; done) | (simp; omega))), by simp; omega, ?_, ?_⟩ ?_
  · refine (World.grew_block _ _ _ (by simp; omega)).trans ?_
    have hq : Below (w.alloc (.cells (ag kS 142 st) St (0, 0))).heap.size (w.alloc (.cells (ag kS 142 st) St (0, 0))) (((((w.alloc (.cells (ag kS 142 st) St (0, 0))).alloc (.cells #[.int .i64 s, .int .i64 c] 60 (0, 0))).alloc (.cells zf 106 (0, 0))).alloc (.cells zs 93 (0, 0))).alloc (.cells Tryd.zeroCells97 St (0, 0))) := by (repeat' (first | (with_reducible exact Below.refl _ _) | (with_reducible assumption) | (with_reducible refine Below.alloc ?_ ?_ _) | (with_reducible refine below_grew ?_ ?_ _) | (with_reducible refine Below.setCell ?_ ?_ _) | (with_reducible refine Below.drew ?_) | (with_reducible refine below_drewN ?_ _) | omega | (simp; done) | (simp; omega)))
    exact (hq.block w.heap.size (by simp)).trans (alloc_at _ _)
  · refine (World.grew_block _ _ _ (by simp)).trans ?_
    have := alloc_at ((((w.alloc (.cells (ag kS 142 st) St (0, 0))).alloc (.cells #[.int .i64 s, .int .i64 c] 60 (0, 0))).alloc (.cells zf 106 (0, 0))).alloc (.cells zs 93 (0, 0))) (.cells Tryd.zeroCells97 St (0, 0))
    rw [show ((((w.alloc (.cells (ag kS 142 st) St (0, 0))).alloc (.cells #[.int .i64 s, .int .i64 c] 60 (0, 0))).alloc (.cells zf 106 (0, 0))).alloc (.cells zs 93 (0, 0))).heap.size = w.heap.size + 4 from by simp] at this
    exact this
  rintro V ⟨hV, hVs, hVb, hVz⟩
  generalize hBd : w.heap.size = B at *
  have HBd := Lib.hid hBd
  have HV := Lib.hid hV
  have HVB := Lib.hid hVb
  have HVZ := Lib.hid hVz
  clear hBd hV hVb hVz
  go_wp2_with (first | (refine load_row_g rfl St _ rfl B rfl _ (ag kS 142 st) (0, 0) _ HVB.out Tryd.underlying97 rfl ?hin ?_; (case hin => exact infoS_ag _)) | (refine wpList_store_mid rfl St _ _ rfl (B + 1 + 1 + 1 + 1) 0 (ag kS 142 st) rfl rfl ?hth ?hin ?hon ?_; (case hth => exact there_row HVZ.out _ (zeroS_le _)); (case hin => exact infoS_ag _); (case hon => exact ag_one kS 142 _)))
  have q1 := cells_all HVZ.out (N := 142) zeroS_size (cs := ag kS 142 st) (ag_size _ _ _)
  have hfin : Below B w (V.setCells (B + 1 + 1 + 1 + 1) 0 (ag kS 142 st).toList) := (only_setCells _ _ _ _).below HV.out (by omega)
  refine bodyPost_ret (v := .tuple #[.agg (ag kS 142 st), .slice none 0 0]) ?_ rfl ⟨rfl, by rw [HBd.out]; exact hfin⟩
  exact results_row_tmp rfl _ _ (B + 1 + 1 + 1 + 1) _ _ _ _ _ rfl rfl q1 Tryd.underlying97 rfl (infoS_ag _)
theorem eqB_refl (f : Nat → Int) : eqB f f = true := (eqB_iff f f).2 fun _ _ => rfl
theorem refRight05 (s c : Int) : spinetref05_Right.f s c = some (decide (RightP s c)) := by
  unfold spinetref05_Right.f
  by_cases h : RightP s c
  · rw [decide_eq_true h]
    obtain ⟨h1, h2, h3, h4⟩ := h
    rw [if_pos (by omega), if_pos (by omega)]
    by_cases e : c = 1
    · rw [if_pos e]
    · rw [if_neg e, show c = 2 from by omega]; rfl
  · rw [decide_eq_false h]
    unfold RightP at h
    by_cases h0 : s ≥ 0
    · rw [if_pos h0]
      by_cases h1 : s ≤ 2
      · rw [if_pos h1, if_neg (by omega), show (c == 2) = false from beq_eq_false_iff_ne.mpr (by omega)]
      · rw [if_neg h1]
    · rw [if_neg h0]
set_option maxHeartbeats 800000 in
set_option maxRecDepth 100000 in
theorem tells_not (st : Nat → Int) (s c ch : Int) (h : ¬ RightP s c) (w : World) (hT : FadeW w) :
    Calls Tryd.prog 16 #[.agg (ag kS 142 st), .agg #[.int .i64 s, .int .i64 c], .int .i64 ch] w fun e w' => e = .returned (.bool true) ∧ Below w.heap.size w w' := by
  have haw := Lib.hid (fun w hT => awake26 w hT)
  have HT := Lib.hid hT
  have hrr := Lib.hid (fun w => spinetref05_Right.calls s c _ w (refRight05 s c))
  rw [decide_eq_false h] at hrr
  have hpl := Lib.hid (fun zf zs w => play_not st s c h zf zs 7 w)
  have hlo := Lib.hid (fun w => lose_not st s c h w)
  have hri := Lib.hid (fun w => right_no st s c h w)
  have hpk := Lib.hid (fun w => peak_no st s c ch (.inr (.inr h)) w)
  have heq := Lib.hid (fun w => eq_stateS st st w)
  rw [eqB_refl] at heq
  clear h hT
  go_enter Tryd.func16, Tryd.ntmps16
  go_upto_region 3 with (go_at_call 46; refine (haw.out _ (HT.out.below (by (repeat' (first | (with_reducible exact Below.refl _ _) | (with_reducible assumption) | (with_reducible refine Below.alloc ?_ ?_ _) | (with_reducible refine below_grew ?_ ?_ _) | (with_reducible refine Below.setCell ?_ ?_ _) | (with_reducible refine Below.drew ?_) | (with_reducible refine below_drewN ?_ _) | omega | (simp; done) | (simp; omega)))))).mono ?_; rintro e w' ⟨rfl, hb1⟩; obtain ⟨x1, rfl⟩ := below_as_grew hb1; clear hb1)
  refine cut_world (fun V => L2 w w.heap.size st s c V) ⟨by (repeat' (first | (with_reducible exact Below.refl _ _) | (with_reducible assumption) | (with_reducible refine Below.alloc ?_ ?_ _) | (with_reducible refine below_grew ?_ ?_ _) | (with_reducible refine Below.setCell ?_ ?_ _) | (with_reducible refine Below.drew ?_) | (with_reducible refine below_drewN ?_ _) | omega | (simp; done) | (simp; omega))), by simp; omega, (World.grew_block _ _ _ (by simp; omega)).trans (alloc_two _ _ _), (World.grew_block _ _ _ (by simp)).trans (alloc_secondOf _ _ _)⟩ ?_
  intro V hV
  generalize hBd : w.heap.size = B at *
  have HBd := Lib.hid hBd
  have m0 := hV.m0
  have m1 := hV.m1
  have HV := Lib.hid hV
  clear hBd hV
  go_upto_region 4 with (go_at_call 30; refine (hrr.out _).mono ?_; rintro e w2 ⟨rfl, hd⟩; have HD := Lib.hid hd; clear hd)
  have hl2 := HV.out.keep HD.out.below
  have HL2 := Lib.hid hl2
  have m0 := hl2.m0
  have m1 := hl2.m1
  have hw2 := hl2.size
  clear hl2 HV HD
  go_wp2_with ((refine load_row_g rfl St _ rfl B rfl _ (ag kS 142 st) (0, 0) _ HL2.out.st Tryd.underlying97 rfl ?hin ?_; (case hin => exact infoS_ag _)))
  refine (hpl.out _ _ _).mono ?_
  rintro e wp ⟨rfl, hbp⟩
  have HBP := Lib.hid hbp
  clear hbp
  go_upto_region 5 with ((refine wpList_store_mid rfl St _ _ rfl wp.heap.size 0 (ag kS 142 st) rfl rfl ?hth ?hin ?hon ?_; (case hth => exact there_row (alloc_at _ _) _ (zeroS_le _)); (case hin => exact infoS_ag _); (case hon => exact ag_one kS 142 _)))
  have q1 := cells_all (alloc_at wp (.cells Tryd.zeroCells97 St (0, 0))) (N := 142) zeroS_size (cs := ag kS 142 st) (ag_size _ _ _)
  have ho := only_setCells (wp.alloc (.cells Tryd.zeroCells97 St (0, 0))) wp.heap.size 0 (ag kS 142 st).toList
  have hbb : Below wp.heap.size wp ((wp.alloc (.cells Tryd.zeroCells97 St (0, 0))).setCells wp.heap.size 0 (ag kS 142 st).toList) := ho.below (by (repeat' (first | (with_reducible exact Below.refl _ _) | (with_reducible assumption) | (with_reducible refine Below.alloc ?_ ?_ _) | (with_reducible refine below_grew ?_ ?_ _) | (with_reducible refine Below.setCell ?_ ?_ _) | (with_reducible refine Below.drew ?_) | (with_reducible refine below_drewN ?_ _) | omega | (simp; done) | (simp; omega)))) (Nat.le_refl _)
  refine cut_world (fun Z => L2 w B st s c Z ∧ Bx wp.heap.size St kS 142 st Z) ⟨(HL2.out.keep HBP.out).keep hbb, q1⟩ ?_
  clear q1 ho hbb m0 m1
  rintro Z ⟨hz, hzb⟩
  have HZ := Lib.hid hz
  have HZB := Lib.hid hzb
  have m0 := hz.m0
  have m1 := hz.m1
  clear hz hzb
  generalize wp.heap.size = p1 at *
  go_wp2_with ((refine load_row_g rfl St _ rfl B rfl _ (ag kS 142 st) (0, 0) _ HZ.out.st Tryd.underlying97 rfl ?hin ?_; (case hin => exact infoS_ag _)))
  refine (hlo.out _).mono ?_
  rintro e wq ⟨rfl, hbq⟩
  have HBQ := Lib.hid hbq
  clear hbq
  go_upto_region 6 with ((refine wpList_store_mid rfl St _ _ rfl wq.heap.size 0 (ag kS 142 st) rfl rfl ?hth ?hin ?hon ?_; (case hth => exact there_row (alloc_at _ _) _ (zeroS_le _)); (case hin => exact infoS_ag _); (case hon => exact ag_one kS 142 _)))
  have q1 := cells_all (alloc_at wq (.cells Tryd.zeroCells97 St (0, 0))) (N := 142) zeroS_size (cs := ag kS 142 st) (ag_size _ _ _)
  have ho := only_setCells (wq.alloc (.cells Tryd.zeroCells97 St (0, 0))) wq.heap.size 0 (ag kS 142 st).toList
  have hbb : Below wq.heap.size wq ((wq.alloc (.cells Tryd.zeroCells97 St (0, 0))).setCells wq.heap.size 0 (ag kS 142 st).toList) := ho.below (by (repeat' (first | (with_reducible exact Below.refl _ _) | (with_reducible assumption) | (with_reducible refine Below.alloc ?_ ?_ _) | (with_reducible refine below_grew ?_ ?_ _) | (with_reducible refine Below.setCell ?_ ?_ _) | (with_reducible refine Below.drew ?_) | (with_reducible refine below_drewN ?_ _) | omega | (simp; done) | (simp; omega)))) (Nat.le_refl _)
  refine cut_world (fun Y => L2 w B st s c Y ∧ Bx p1 St kS 142 st Y ∧ Bx wq.heap.size St kS 142 st Y) ⟨(HZ.out.keep HBQ.out).keep hbb, (HZB.out.keep HBQ.out).keep hbb, q1⟩ ?_
  clear q1 ho hbb m0 m1
  rintro Y ⟨hy, hyb, hyc⟩
  have HY := Lib.hid hy
  have HYB := Lib.hid hyb
  have HYC := Lib.hid hyc
  have m0 := hy.m0
  have m1 := hy.m1
  have hys := hy.size
  have hysB : B < Y.heap.size := by omega
  have hp1 := (block_facts hyb).2.2
  have hp2 := (block_facts hyc).2.2
  clear hy hyb hyc
  generalize wq.heap.size = p2 at *
  have he := heq.out
  go_wp2_with (first | (refine load_row_g rfl St _ rfl B rfl _ (ag kS 142 st) (0, 0) _ HY.out.st Tryd.underlying97 rfl ?hin ?_; (case hin => exact infoS_ag _)) | (refine load_row_g rfl St _ rfl B rfl _ (ag kS 142 st) (0, 0) _ ((World.grew_block Y _ B hysB).trans HY.out.st) Tryd.underlying97 rfl ?hin ?_; (case hin => exact infoS_ag _)) | (refine load_row_g rfl St _ rfl p1 rfl _ (ag kS 142 st) (0, 0) _ ((World.grew_block Y _ p1 hp1).trans HYB.out) Tryd.underlying97 rfl ?hin ?_; (case hin => exact infoS_ag _)) | (refine load_row_g rfl St _ rfl p2 rfl _ (ag kS 142 st) (0, 0) _ ((World.grew_block Y _ p2 hp2).trans HYC.out) Tryd.underlying97 rfl ?hin ?_; (case hin => exact infoS_ag _)) | (go_at_call 55; refine (hri.out _).mono ?_; rintro e w' ⟨rfl, hb1⟩; obtain ⟨x1, rfl⟩ := below_as_grew hb1; clear hb1) | (go_at_call 52; refine (hpk.out _).mono ?_; rintro e w' ⟨rfl, hb1⟩; obtain ⟨x1, rfl⟩ := below_as_grew hb1; clear hb1))
  go_ret
  exact ⟨rfl, by rw [HBd.out]; exact HY.out.below.trans (Below.mono (B := Y.heap.size) (by (repeat' (first | (with_reducible exact Below.refl _ _) | (with_reducible assumption) | (with_reducible refine Below.alloc ?_ ?_ _) | (with_reducible refine below_grew ?_ ?_ _) | (with_reducible refine Below.setCell ?_ ?_ _) | (with_reducible refine Below.drew ?_) | (with_reducible refine below_drewN ?_ _) | omega | (simp; done) | (simp; omega)))) (by omega))⟩
set_option maxHeartbeats 8000000 in
set_option maxRecDepth 100000 in
theorem tells_yes (st : Nat → Int) (s : Int) (c : Nat) (ch : Int) (hs : 0 ≤ s ∧ s ≤ 2) (hc : 1 ≤ c ∧ c ≤ 2) (h32 : ∀ j, 10 ≤ j → j < 140 → -2147483648 ≤ st j ∧ st j ≤ 2147483647) (w : World) (hT : FadeW w) :
    Calls Tryd.prog 16 #[.agg (ag kS 142 st), .agg #[.int .i64 s, .int .i64 c], .int .i64 ch] w fun e w' => e = .returned (.bool true) ∧ Below w.heap.size w w' := by
  have haw := Lib.hid (fun w hT => awake26 w hT)
  have HT := Lib.hid hT
  have hR : RightP s c := ⟨by omega, by omega, by omega, by omega⟩
  have hrr := Lib.hid (fun w => spinetref05_Right.calls s c _ w (refRight05 s c))
  rw [decide_eq_true hR] at hrr
  obtain ⟨q, hq⟩ : ∃ q : Bool, q = true ↔ StOk (nOf s) (nbOf s) c st := by
    classical
    exact ⟨decide (StOk (nOf s) (nbOf s) c st), by simp⟩
  have hri := Lib.hid (fun w => right_yes st s c hs hc w q hq h32)
  have hrr2 := Lib.hid (fun w => refRight_any st s c hs hc w q (hq.trans (StOk_iff _ _ c st hc.2)))
  have hpn := Lib.hid (fun w => plainS_any st h32 w)
  have hN := Lib.hid (fun w => modeN26 s c hs (by omega) w)
  obtain ⟨n, hn⟩ : ∃ n, nOf s = n := ⟨_, rfl⟩
  have hn32 : 8 ≤ n ∧ n ≤ 32 := by have := nOf_len s; rw [hn] at this; unfold Len at this; omega
  rw [hn] at hN
  have Hn := Lib.hid hn
  have H32 := Lib.hid h32
  have hpy := Lib.hid (fun (k : Nat) (hk : k < c) w => peak_yes st s c k hs hc hk h32 w)
  have hpx := Lib.hid (fun (h : ch < 0 ∨ c ≤ ch) w => peak_no st s c ch (h.elim .inl (fun h => .inr (.inl h))) w)
  clear hT hR hq h32 hn
  go_enter Tryd.func16, Tryd.ntmps16
  go_upto_region 3 with (go_at_call 46; refine (haw.out _ (HT.out.below (by (repeat' (first | (with_reducible exact Below.refl _ _) | (with_reducible assumption) | (with_reducible refine Below.alloc ?_ ?_ _) | (with_reducible refine below_grew ?_ ?_ _) | (with_reducible refine Below.setCell ?_ ?_ _) | (with_reducible refine Below.drew ?_) | (with_reducible refine below_drewN ?_ _) | omega | (simp; done) | (simp; omega)))))).mono ?_; rintro e w' ⟨rfl, hb1⟩; obtain ⟨x1, rfl⟩ := below_as_grew hb1; clear hb1)
  refine cut_world (fun V => L2 w w.heap.size st s c V) ⟨by (repeat' (first | (with_reducible exact Below.refl _ _) | (with_reducible assumption) | (with_reducible refine Below.alloc ?_ ?_ _) | (with_reducible refine below_grew ?_ ?_ _) | (with_reducible refine Below.setCell ?_ ?_ _) | (with_reducible refine Below.drew ?_) | (with_reducible refine below_drewN ?_ _) | omega | (simp; done) | (simp; omega))), by simp; omega, (World.grew_block _ _ _ (by simp; omega)).trans (alloc_two _ _ _), (World.grew_block _ _ _ (by simp)).trans (alloc_secondOf _ _ _)⟩ ?_
  intro V hV
  generalize hBd : w.heap.size = B at *
  have HBd := Lib.hid hBd
  have m0 := hV.m0
  have m1 := hV.m1
  have HV := Lib.hid hV
  clear hBd hV
  go_upto_region 7 with (go_at_call 30; refine (hrr.out _).mono ?_; rintro e w2 ⟨rfl, hd⟩; have HD := Lib.hid hd; clear hd)
  have hl2 := HV.out.keep HD.out.below
  have HL2 := Lib.hid hl2
  clear hl2 HV HD m0 m1
  by_cases hin : 0 ≤ ch ∧ ch < c
  · obtain ⟨k, rfl⟩ : ∃ k : Nat, ch = k := ⟨ch.toNat, by omega⟩
    obtain ⟨hk0, hkc⟩ := hin
    have hkc' : k < c := by omega
    have hk2 : (k : Int) < 2 := by omega
    have hk1 : (k : Int) ≥ 0 := hk0
    have n0 : (0 : Int) ≤ n := by omega
    have n32 : (n : Int) ≤ 32 := by omega
    have hpk := hpy.out k hkc'
    rw [Hn.out] at hpk
    have HPK0 := Lib.hid hpk
    clear hpk hpy hpx
    go_wp2_with fail
    go_loopw [11, 12] (fun pk cnt wr => ∃ i : Nat, i ≤ n ∧ cnt = .int .i64 i ∧ pk = .int .i64 (pkTo st k i) ∧ L2 w B st s c wr) (fun _ cnt _ => n - (intOf cnt).toNat)
    case atStart => exact ⟨0, by omega, rfl, rfl, HL2.out⟩
    case round =>
      obtain ⟨i, hi, rfl, rfl, hL⟩ := hrel
      have HL := Lib.hid hL
      have m0 := hL.m0
      have m1 := hL.m1
      have hsz := hL.size
      obtain ⟨p1, p2⟩ := pkTo_bd st k (by omega) H32.out i (by omega)
      obtain ⟨p, hp⟩ : ∃ p, pkTo st k i = p := ⟨_, rfl⟩
      rw [hp] at p1 p2
      have HP := Lib.hid hp
      rw [hp]
      clear hL hp
      by_cases hlt2 : i < n
      · have hlt2' : (i : Int) < n := by omega
        have hi0 : (0 : Int) ≤ i := by omega
        obtain ⟨y1, y2⟩ := H32.out (74 + k * 32 + i) (by omega) (by omega)
        generalize hy : st (74 + k * 32 + i) = y at y1 y2
        have HY := Lib.hid hy
        clear hy
        go_wp2_with (go_at_call 47; refine (hN.out _).mono ?_; rintro e wn ⟨rfl, hbn⟩; have hl := HL.out.keep hbn; have HLN := Lib.hid hl; have m1n := hl.m1; have r0 := ag_cell hl.st (74 + k * 32 + i) (by omega); rw [kS_I _ (by omega) (by omega), HY.out] at r0; clear hl hbn)
        go_roundw
        case rel => exact ⟨i + 1, by omega, rfl, by rw [pkTo, HP.out, HY.out]; exact congrArg (Value.int .i64) (by omega), HLN.out⟩
        case measure => simp [intOf]; omega
      · have hlt2' : ¬ (i : Int) < n := by omega
        obtain rfl : i = n := by omega
        go_upto_region 13 with (go_at_call 47; refine (hN.out _).mono ?_; rintro e wn ⟨rfl, hbn⟩; have hl := HL.out.keep hbn; have HY := Lib.hid hl; have m0 := hl.m0; have m1 := hl.m1; have hsz := hl.size; clear hl hbn)
        have HPK := Lib.hid HPK0.out
        rw [HP.out] at HPK
        have p3 : 0 ≤ min p 2147483647 := by omega
        have p4 : min p 2147483647 ≤ 2147483647 := by omega
        refine wp_region_inv [] (fun W => Below wn.heap.size wn W) (fun W W' => Below W.heap.size W W') 21 (by kernel_rfl) (by kernel_rfl) (by kernel_rfl) ((Below.refl _ _).drew) (fun W W' h h' => h.trans (h'.mono h.size)) (fun _ _ h => h.size) ?_
        simp only [List.take_succ_cons, List.take_zero, List.drop_succ_cons, List.drop_zero]
        refine wpInv_det (by kernel_rfl) (by kernel_rfl) ?_
        apply Exists.intro
        refine ⟨?_, ?_, ?_⟩
        · intro U W hC hH
          have hc1 := (bcell hC).1
          have hf1 := (bcell hC).2
          simp only [HypsU, predsOf, Region.binds, List.filterMap_cons, List.filterMap_nil, if_true, List.nil_append, List.cons_append, List.getD_cons_zero, List.getD_cons_succ] at hH
          simp only [fillPuts, Act.put, List.setIfInBounds_toArray, List.set_cons_zero, List.set_cons_succ, Nat.reduceAdd]
          refine load_row_g rfl St _ rfl B rfl _ (ag kS 142 st) (0, 0) _ (HY.out.keep hC).st Tryd.underlying97 rfl (infoS_ag _) ?_; go_wp2_with fail
          refine ⟨rfl, rfl, by (repeat' (first | (with_reducible exact Below.refl _ _) | (with_reducible assumption) | (with_reducible refine Below.alloc ?_ ?_ _) | (with_reducible refine below_grew ?_ ?_ _) | (with_reducible refine Below.setCell ?_ ?_ _) | (with_reducible refine Below.drew ?_) | (with_reducible refine below_drewN ?_ _) | omega | (simp; done) | (simp; omega))), ?_⟩
          conv => lhs; whnf
          try rfl
        · exact fun _ => rfl
        simp only [List.nil_append, List.cons_append, Nat.reduceAdd]
        refine wpInv_det (by kernel_rfl) (by kernel_rfl) ?_
        apply Exists.intro
        refine ⟨?_, ?_, ?_⟩
        · intro U W hC hH
          have hc1 := (bcell hC).1
          have hf1 := (bcell hC).2
          simp only [HypsU, predsOf, Region.binds, List.filterMap_cons, List.filterMap_nil, if_true, List.nil_append, List.cons_append, List.getD_cons_zero, List.getD_cons_succ] at hH
          simp only [fillPuts, Act.put, List.setIfInBounds_toArray, List.set_cons_zero, List.set_cons_succ, Nat.reduceAdd]
          go_wp2_with fail
          refine ⟨rfl, rfl, by (repeat' (first | (with_reducible exact Below.refl _ _) | (with_reducible assumption) | (with_reducible refine Below.alloc ?_ ?_ _) | (with_reducible refine below_grew ?_ ?_ _) | (with_reducible refine Below.setCell ?_ ?_ _) | (with_reducible refine Below.drew ?_) | (with_reducible refine below_drewN ?_ _) | omega | (simp; done) | (simp; omega))), ?_⟩
          conv => lhs; whnf
          try rfl
        · exact fun _ => rfl
        simp only [List.nil_append, List.cons_append, Nat.reduceAdd]
        refine wpInv_det (by kernel_rfl) (by kernel_rfl) ?_
        apply Exists.intro
        refine ⟨?_, ?_, ?_⟩
        · intro U W hC hH
          have hc1 := (bcell hC).1
          have hf1 := (bcell hC).2
          simp only [HypsU, predsOf, Region.binds, List.filterMap_cons, List.filterMap_nil, if_true, List.nil_append, List.cons_append, List.getD_cons_zero, List.getD_cons_succ] at hH
          simp only [fillPuts, Act.put, List.setIfInBounds_toArray, List.set_cons_zero, List.set_cons_succ, Nat.reduceAdd]
          go_wp2_with fail; refine (hri.out _).mono ?_; rintro e w' ⟨rfl, hb1⟩; obtain ⟨x1, rfl⟩ := below_as_grew hb1; clear hb1; go_wp2_with fail
          refine ⟨rfl, rfl, by (repeat' (first | (with_reducible exact Below.refl _ _) | (with_reducible assumption) | (with_reducible refine Below.alloc ?_ ?_ _) | (with_reducible refine below_grew ?_ ?_ _) | (with_reducible refine Below.setCell ?_ ?_ _) | (with_reducible refine Below.drew ?_) | (with_reducible refine below_drewN ?_ _) | omega | (simp; done) | (simp; omega))), ?_⟩
          conv => lhs; whnf
          try rfl
        · exact fun _ => rfl
        simp only [List.nil_append, List.cons_append, Nat.reduceAdd]
        refine wpInv_det (by kernel_rfl) (by kernel_rfl) ?_
        apply Exists.intro
        refine ⟨?_, ?_, ?_⟩
        · intro U W hC hH
          have hc1 := (bcell hC).1
          have hf1 := (bcell hC).2
          simp only [HypsU, predsOf, Region.binds, List.filterMap_cons, List.filterMap_nil, if_true, List.nil_append, List.cons_append, List.getD_cons_zero, List.getD_cons_succ] at hH
          simp only [fillPuts, Act.put, List.setIfInBounds_toArray, List.set_cons_zero, List.set_cons_succ, Nat.reduceAdd]
          refine load_row_g rfl St _ rfl B rfl _ (ag kS 142 st) (0, 0) _ (HY.out.keep hC).st Tryd.underlying97 rfl (infoS_ag _) ?_; go_wp2_with fail
          refine ⟨rfl, rfl, by (repeat' (first | (with_reducible exact Below.refl _ _) | (with_reducible assumption) | (with_reducible refine Below.alloc ?_ ?_ _) | (with_reducible refine below_grew ?_ ?_ _) | (with_reducible refine Below.setCell ?_ ?_ _) | (with_reducible refine Below.drew ?_) | (with_reducible refine below_drewN ?_ _) | omega | (simp; done) | (simp; omega))), ?_⟩
          conv => lhs; whnf
          try rfl
        · exact fun _ => rfl
        simp only [List.nil_append, List.cons_append, Nat.reduceAdd]
        refine wpInv_det (by kernel_rfl) (by kernel_rfl) ?_
        apply Exists.intro
        refine ⟨?_, ?_, ?_⟩
        · intro U W hC hH
          have hc1 := (bcell hC).1
          have hf1 := (bcell hC).2
          simp only [HypsU, predsOf, Region.binds, List.filterMap_cons, List.filterMap_nil, if_true, List.nil_append, List.cons_append, List.getD_cons_zero, List.getD_cons_succ] at hH
          simp only [fillPuts, Act.put, List.setIfInBounds_toArray, List.set_cons_zero, List.set_cons_succ, Nat.reduceAdd]
          go_wp2_with fail; refine (hpn.out _).mono ?_; rintro e w' ⟨rfl, hb1⟩; obtain ⟨x1, rfl⟩ := below_as_grew hb1; clear hb1; go_wp2_with fail
          refine ⟨rfl, rfl, by (repeat' (first | (with_reducible exact Below.refl _ _) | (with_reducible assumption) | (with_reducible refine Below.alloc ?_ ?_ _) | (with_reducible refine below_grew ?_ ?_ _) | (with_reducible refine Below.setCell ?_ ?_ _) | (with_reducible refine Below.drew ?_) | (with_reducible refine below_drewN ?_ _) | omega | (simp; done) | (simp; omega))), ?_⟩
          conv => lhs; whnf
          try rfl
        · exact fun _ => rfl
        simp only [List.nil_append, List.cons_append, Nat.reduceAdd]
        refine wpInv_det (by kernel_rfl) (by kernel_rfl) ?_
        apply Exists.intro
        refine ⟨?_, ?_, ?_⟩
        · intro U W hC hH
          have hc1 := (bcell hC).1
          have hf1 := (bcell hC).2
          simp only [HypsU, predsOf, Region.binds, List.filterMap_cons, List.filterMap_nil, if_true, List.nil_append, List.cons_append, List.getD_cons_zero, List.getD_cons_succ] at hH
          simp only [fillPuts, Act.put, List.setIfInBounds_toArray, List.set_cons_zero, List.set_cons_succ, Nat.reduceAdd]
          go_wp2_with fail
          refine ⟨rfl, rfl, by (repeat' (first | (with_reducible exact Below.refl _ _) | (with_reducible assumption) | (with_reducible refine Below.alloc ?_ ?_ _) | (with_reducible refine below_grew ?_ ?_ _) | (with_reducible refine Below.setCell ?_ ?_ _) | (with_reducible refine Below.drew ?_) | (with_reducible refine below_drewN ?_ _) | omega | (simp; done) | (simp; omega))), ?_⟩
          conv => lhs; whnf
          try rfl
        · exact fun _ => rfl
        simp only [List.nil_append, List.cons_append, Nat.reduceAdd]
        refine wpInv_det (by kernel_rfl) (by kernel_rfl) ?_
        apply Exists.intro
        refine ⟨?_, ?_, ?_⟩
        · intro U W hC hH
          have hc1 := (bcell hC).1
          have hf1 := (bcell hC).2
          simp only [HypsU, predsOf, Region.binds, List.filterMap_cons, List.filterMap_nil, if_true, List.nil_append, List.cons_append, List.getD_cons_zero, List.getD_cons_succ] at hH
          simp only [fillPuts, Act.put, List.setIfInBounds_toArray, List.set_cons_zero, List.set_cons_succ, Nat.reduceAdd]
          go_wp2_with fail
          refine ⟨rfl, rfl, by (repeat' (first | (with_reducible exact Below.refl _ _) | (with_reducible assumption) | (with_reducible refine Below.alloc ?_ ?_ _) | (with_reducible refine below_grew ?_ ?_ _) | (with_reducible refine Below.setCell ?_ ?_ _) | (with_reducible refine Below.drew ?_) | (with_reducible refine below_drewN ?_ _) | omega | (simp; done) | (simp; omega))), ?_⟩
          conv => lhs; whnf
          try rfl
        · exact fun _ => rfl
        simp only [List.nil_append, List.cons_append, Nat.reduceAdd]
        refine wpInv_det (by kernel_rfl) (by kernel_rfl) ?_
        apply Exists.intro
        refine ⟨?_, ?_, ?_⟩
        · intro U W hC hH
          have hc1 := (bcell hC).1
          have hf1 := (bcell hC).2
          simp only [HypsU, predsOf, Region.binds, List.filterMap_cons, List.filterMap_nil, if_true, List.nil_append, List.cons_append, List.getD_cons_zero, List.getD_cons_succ] at hH
          simp only [fillPuts, Act.put, List.setIfInBounds_toArray, List.set_cons_zero, List.set_cons_succ, Nat.reduceAdd]
          go_wp2_with fail
          refine ⟨rfl, rfl, by (repeat' (first | (with_reducible exact Below.refl _ _) | (with_reducible assumption) | (with_reducible refine Below.alloc ?_ ?_ _) | (with_reducible refine below_grew ?_ ?_ _) | (with_reducible refine Below.setCell ?_ ?_ _) | (with_reducible refine Below.drew ?_) | (with_reducible refine below_drewN ?_ _) | omega | (simp; done) | (simp; omega))), ?_⟩
          conv => lhs; whnf
          try rfl
        · exact fun _ => rfl
        simp only [List.nil_append, List.cons_append, Nat.reduceAdd]
        refine wpInv_det (by kernel_rfl) (by kernel_rfl) ?_
        apply Exists.intro
        refine ⟨?_, ?_, ?_⟩
        · intro U W hC hH
          have hc1 := (bcell hC).1
          have hf1 := (bcell hC).2
          simp only [HypsU, predsOf, Region.binds, List.filterMap_cons, List.filterMap_nil, if_true, List.nil_append, List.cons_append, List.getD_cons_zero, List.getD_cons_succ] at hH
          simp only [fillPuts, Act.put, List.setIfInBounds_toArray, List.set_cons_zero, List.set_cons_succ, Nat.reduceAdd]
          go_wp2_with fail
          refine ⟨rfl, rfl, by (repeat' (first | (with_reducible exact Below.refl _ _) | (with_reducible assumption) | (with_reducible refine Below.alloc ?_ ?_ _) | (with_reducible refine below_grew ?_ ?_ _) | (with_reducible refine Below.setCell ?_ ?_ _) | (with_reducible refine Below.drew ?_) | (with_reducible refine below_drewN ?_ _) | omega | (simp; done) | (simp; omega))), ?_⟩
          conv => lhs; whnf
          try rfl
        · exact fun _ => rfl
        simp only [List.nil_append, List.cons_append, Nat.reduceAdd]
        refine wpInv_det (by kernel_rfl) (by kernel_rfl) ?_
        apply Exists.intro
        refine ⟨?_, ?_, ?_⟩
        · intro U W hC hH
          have hc1 := (bcell hC).1
          have hf1 := (bcell hC).2
          simp only [HypsU, predsOf, Region.binds, List.filterMap_cons, List.filterMap_nil, if_true, List.nil_append, List.cons_append, List.getD_cons_zero, List.getD_cons_succ] at hH
          simp only [fillPuts, Act.put, List.setIfInBounds_toArray, List.set_cons_zero, List.set_cons_succ, Nat.reduceAdd]
          go_wp2_with fail; refine (hrr2.out _).mono ?_; rintro e w' ⟨rfl, hb1⟩; obtain ⟨x1, rfl⟩ := below_as_grew hb1; clear hb1; go_wp2_with fail
          refine ⟨rfl, rfl, by (repeat' (first | (with_reducible exact Below.refl _ _) | (with_reducible assumption) | (with_reducible refine Below.alloc ?_ ?_ _) | (with_reducible refine below_grew ?_ ?_ _) | (with_reducible refine Below.setCell ?_ ?_ _) | (with_reducible refine Below.drew ?_) | (with_reducible refine below_drewN ?_ _) | omega | (simp; done) | (simp; omega))), ?_⟩
          conv => lhs; whnf
          try rfl
        · exact fun _ => rfl
        simp only [List.nil_append, List.cons_append, Nat.reduceAdd]
        refine wpInv_det (by kernel_rfl) (by kernel_rfl) ?_
        apply Exists.intro
        refine ⟨?_, ?_, ?_⟩
        · intro U W hC hH
          have hc1 := (bcell hC).1
          have hf1 := (bcell hC).2
          simp only [HypsU, predsOf, Region.binds, List.filterMap_cons, List.filterMap_nil, if_true, List.nil_append, List.cons_append, List.getD_cons_zero, List.getD_cons_succ] at hH
          simp only [fillPuts, Act.put, List.setIfInBounds_toArray, List.set_cons_zero, List.set_cons_succ, Nat.reduceAdd]
          simp only [hH]; go_wp2_with fail
          refine ⟨rfl, rfl, by (repeat' (first | (with_reducible exact Below.refl _ _) | (with_reducible assumption) | (with_reducible refine Below.alloc ?_ ?_ _) | (with_reducible refine below_grew ?_ ?_ _) | (with_reducible refine Below.setCell ?_ ?_ _) | (with_reducible refine Below.drew ?_) | (with_reducible refine below_drewN ?_ _) | omega | (simp; done) | (simp; omega))), ?_⟩
          conv => lhs; whnf
          try rfl
        · exact fun _ => rfl
        simp only [List.nil_append, List.cons_append, Nat.reduceAdd]
        refine wpInv_det (by kernel_rfl) (by kernel_rfl) ?_
        apply Exists.intro
        refine ⟨?_, ?_, ?_⟩
        · intro U W hC hH
          have hc1 := (bcell hC).1
          have hf1 := (bcell hC).2
          simp only [HypsU, predsOf, Region.binds, List.filterMap_cons, List.filterMap_nil, if_true, List.nil_append, List.cons_append, List.getD_cons_zero, List.getD_cons_succ] at hH
          simp only [fillPuts, Act.put, List.setIfInBounds_toArray, List.set_cons_zero, List.set_cons_succ, Nat.reduceAdd]
          simp only [hH]; go_wp2_with fail
          refine ⟨rfl, rfl, by (repeat' (first | (with_reducible exact Below.refl _ _) | (with_reducible assumption) | (with_reducible refine Below.alloc ?_ ?_ _) | (with_reducible refine below_grew ?_ ?_ _) | (with_reducible refine Below.setCell ?_ ?_ _) | (with_reducible refine Below.drew ?_) | (with_reducible refine below_drewN ?_ _) | omega | (simp; done) | (simp; omega))), ?_⟩
          conv => lhs; whnf
          try rfl
        · exact fun _ => rfl
        simp only [List.nil_append, List.cons_append, Nat.reduceAdd]
        refine wpInv_det (by kernel_rfl) (by kernel_rfl) ?_
        apply Exists.intro
        refine ⟨?_, ?_, ?_⟩
        · intro U W hC hH
          have hc1 := (bcell hC).1
          have hf1 := (bcell hC).2
          simp only [HypsU, predsOf, Region.binds, List.filterMap_cons, List.filterMap_nil, if_true, List.nil_append, List.cons_append, List.getD_cons_zero, List.getD_cons_succ] at hH
          simp only [fillPuts, Act.put, List.setIfInBounds_toArray, List.set_cons_zero, List.set_cons_succ, Nat.reduceAdd]
          simp only [hH]; refine load_row_g rfl St _ rfl B rfl _ (ag kS 142 st) (0, 0) _ (HY.out.keep hC).st Tryd.underlying97 rfl (infoS_ag _) ?_; go_wp2_with fail
          refine ⟨rfl, rfl, by (repeat' (first | (with_reducible exact Below.refl _ _) | (with_reducible assumption) | (with_reducible refine Below.alloc ?_ ?_ _) | (with_reducible refine below_grew ?_ ?_ _) | (with_reducible refine Below.setCell ?_ ?_ _) | (with_reducible refine Below.drew ?_) | (with_reducible refine below_drewN ?_ _) | omega | (simp; done) | (simp; omega))), ?_⟩
          conv => lhs; whnf
          try rfl
        · exact fun _ => rfl
        simp only [List.nil_append, List.cons_append, Nat.reduceAdd]
        refine wpInv_det (by kernel_rfl) (by kernel_rfl) ?_
        apply Exists.intro
        refine ⟨?_, ?_, ?_⟩
        · intro U W hC hH
          have hc1 := (bcell hC).1
          have hf1 := (bcell hC).2
          simp only [HypsU, predsOf, Region.binds, List.filterMap_cons, List.filterMap_nil, if_true, List.nil_append, List.cons_append, List.getD_cons_zero, List.getD_cons_succ] at hH
          simp only [fillPuts, Act.put, List.setIfInBounds_toArray, List.set_cons_zero, List.set_cons_succ, Nat.reduceAdd]
          simp only [hH]; go_wp2_with fail
          refine ⟨rfl, rfl, by (repeat' (first | (with_reducible exact Below.refl _ _) | (with_reducible assumption) | (with_reducible refine Below.alloc ?_ ?_ _) | (with_reducible refine below_grew ?_ ?_ _) | (with_reducible refine Below.setCell ?_ ?_ _) | (with_reducible refine Below.drew ?_) | (with_reducible refine below_drewN ?_ _) | omega | (simp; done) | (simp; omega))), ?_⟩
          conv => lhs; whnf
          try rfl
        · exact fun _ => rfl
        simp only [List.nil_append, List.cons_append, Nat.reduceAdd]
        refine wpInv_det (by kernel_rfl) (by kernel_rfl) ?_
        apply Exists.intro
        refine ⟨?_, ?_, ?_⟩
        · intro U W hC hH
          have hc1 := (bcell hC).1
          have hf1 := (bcell hC).2
          simp only [HypsU, predsOf, Region.binds, List.filterMap_cons, List.filterMap_nil, if_true, List.nil_append, List.cons_append, List.getD_cons_zero, List.getD_cons_succ] at hH
          simp only [fillPuts, Act.put, List.setIfInBounds_toArray, List.set_cons_zero, List.set_cons_succ, Nat.reduceAdd]
          simp only [hH]; go_wp2_with fail
          refine ⟨rfl, rfl, by (repeat' (first | (with_reducible exact Below.refl _ _) | (with_reducible assumption) | (with_reducible refine Below.alloc ?_ ?_ _) | (with_reducible refine below_grew ?_ ?_ _) | (with_reducible refine Below.setCell ?_ ?_ _) | (with_reducible refine Below.drew ?_) | (with_reducible refine below_drewN ?_ _) | omega | (simp; done) | (simp; omega))), ?_⟩
          conv => lhs; whnf
          try rfl
        · exact fun _ => rfl
        simp only [List.nil_append, List.cons_append, Nat.reduceAdd]
        refine wpInv_det (by kernel_rfl) (by kernel_rfl) ?_
        apply Exists.intro
        refine ⟨?_, ?_, ?_⟩
        · intro U W hC hH
          have hc1 := (bcell hC).1
          have hf1 := (bcell hC).2
          simp only [HypsU, predsOf, Region.binds, List.filterMap_cons, List.filterMap_nil, if_true, List.nil_append, List.cons_append, List.getD_cons_zero, List.getD_cons_succ] at hH
          simp only [fillPuts, Act.put, List.setIfInBounds_toArray, List.set_cons_zero, List.set_cons_succ, Nat.reduceAdd]
          simp only [hH]; go_wp2_with fail; refine (HPK.out _).mono ?_; rintro e w' ⟨rfl, hb1⟩; obtain ⟨x1, rfl⟩ := below_as_grew hb1; clear hb1; go_wp2_with fail
          refine ⟨rfl, rfl, by (repeat' (first | (with_reducible exact Below.refl _ _) | (with_reducible assumption) | (with_reducible refine Below.alloc ?_ ?_ _) | (with_reducible refine below_grew ?_ ?_ _) | (with_reducible refine Below.setCell ?_ ?_ _) | (with_reducible refine Below.drew ?_) | (with_reducible refine below_drewN ?_ _) | omega | (simp; done) | (simp; omega))), ?_⟩
          conv => lhs; whnf
          try rfl
        · exact fun _ => rfl
        simp only [List.nil_append, List.cons_append, Nat.reduceAdd]
        refine wpInv_det (by kernel_rfl) (by kernel_rfl) ?_
        apply Exists.intro
        refine ⟨?_, ?_, ?_⟩
        · intro U W hC hH
          have hc1 := (bcell hC).1
          have hf1 := (bcell hC).2
          simp only [HypsU, predsOf, Region.binds, List.filterMap_cons, List.filterMap_nil, if_true, List.nil_append, List.cons_append, List.getD_cons_zero, List.getD_cons_succ] at hH
          simp only [fillPuts, Act.put, List.setIfInBounds_toArray, List.set_cons_zero, List.set_cons_succ, Nat.reduceAdd]
          simp only [hH]; go_wp2_with fail
          refine ⟨rfl, rfl, by (repeat' (first | (with_reducible exact Below.refl _ _) | (with_reducible assumption) | (with_reducible refine Below.alloc ?_ ?_ _) | (with_reducible refine below_grew ?_ ?_ _) | (with_reducible refine Below.setCell ?_ ?_ _) | (with_reducible refine Below.drew ?_) | (with_reducible refine below_drewN ?_ _) | omega | (simp; done) | (simp; omega))), ?_⟩
          conv => lhs; whnf
          try rfl
        · exact fun _ => rfl
        simp only [List.nil_append, List.cons_append, Nat.reduceAdd]
        refine wpInv_det (by kernel_rfl) (by kernel_rfl) ?_
        apply Exists.intro
        refine ⟨?_, ?_, ?_⟩
        · intro U W hC hH
          have hc1 := (bcell hC).1
          have hf1 := (bcell hC).2
          simp only [HypsU, predsOf, Region.binds, List.filterMap_cons, List.filterMap_nil, if_true, List.nil_append, List.cons_append, List.getD_cons_zero, List.getD_cons_succ] at hH
          simp only [fillPuts, Act.put, List.setIfInBounds_toArray, List.set_cons_zero, List.set_cons_succ, Nat.reduceAdd]
          simp only [hH]; go_wp2_with fail
          refine ⟨rfl, rfl, by (repeat' (first | (with_reducible exact Below.refl _ _) | (with_reducible assumption) | (with_reducible refine Below.alloc ?_ ?_ _) | (with_reducible refine below_grew ?_ ?_ _) | (with_reducible refine Below.setCell ?_ ?_ _) | (with_reducible refine Below.drew ?_) | (with_reducible refine below_drewN ?_ _) | omega | (simp; done) | (simp; omega))), ?_⟩
          conv => lhs; whnf
          try rfl
        · exact fun _ => rfl
        simp only [List.nil_append, List.cons_append, Nat.reduceAdd]
        refine wpInv_det (by kernel_rfl) (by kernel_rfl) ?_
        apply Exists.intro
        refine ⟨?_, ?_, ?_⟩
        · intro U W hC hH
          have hc1 := (bcell hC).1
          have hf1 := (bcell hC).2
          simp only [HypsU, predsOf, Region.binds, List.filterMap_cons, List.filterMap_nil, if_true, List.nil_append, List.cons_append, List.getD_cons_zero, List.getD_cons_succ] at hH
          simp only [fillPuts, Act.put, List.setIfInBounds_toArray, List.set_cons_zero, List.set_cons_succ, Nat.reduceAdd]
          simp only [hH]; go_wp2_with fail
          refine ⟨rfl, rfl, by (repeat' (first | (with_reducible exact Below.refl _ _) | (with_reducible assumption) | (with_reducible refine Below.alloc ?_ ?_ _) | (with_reducible refine below_grew ?_ ?_ _) | (with_reducible refine Below.setCell ?_ ?_ _) | (with_reducible refine Below.drew ?_) | (with_reducible refine below_drewN ?_ _) | omega | (simp; done) | (simp; omega))), ?_⟩
          conv => lhs; whnf
          try rfl
        · exact fun _ => rfl
        simp only [List.nil_append, List.cons_append, Nat.reduceAdd]
        refine wpInv_det (by kernel_rfl) (by kernel_rfl) ?_
        apply Exists.intro
        refine ⟨?_, ?_, ?_⟩
        · intro U W hC hH
          have hc1 := (bcell hC).1
          have hf1 := (bcell hC).2
          simp only [HypsU, predsOf, Region.binds, List.filterMap_cons, List.filterMap_nil, if_true, List.nil_append, List.cons_append, List.getD_cons_zero, List.getD_cons_succ] at hH
          simp only [fillPuts, Act.put, List.setIfInBounds_toArray, List.set_cons_zero, List.set_cons_succ, Nat.reduceAdd]
          simp only [hH]; go_wp2_with fail
          refine ⟨rfl, rfl, by (repeat' (first | (with_reducible exact Below.refl _ _) | (with_reducible assumption) | (with_reducible refine Below.alloc ?_ ?_ _) | (with_reducible refine below_grew ?_ ?_ _) | (with_reducible refine Below.setCell ?_ ?_ _) | (with_reducible refine Below.drew ?_) | (with_reducible refine below_drewN ?_ _) | omega | (simp; done) | (simp; omega))), ?_⟩
          conv => lhs; whnf
          try rfl
        · exact fun _ => rfl
        simp only [List.nil_append, List.cons_append, Nat.reduceAdd]
        refine wpInv_det (by kernel_rfl) (by kernel_rfl) ?_
        apply Exists.intro
        refine ⟨?_, ?_, ?_⟩
        · intro U W hC hH
          have hc1 := (bcell hC).1
          have hf1 := (bcell hC).2
          simp only [HypsU, predsOf, Region.binds, List.filterMap_cons, List.filterMap_nil, if_true, List.nil_append, List.cons_append, List.getD_cons_zero, List.getD_cons_succ] at hH
          simp only [fillPuts, Act.put, List.setIfInBounds_toArray, List.set_cons_zero, List.set_cons_succ, Nat.reduceAdd]
          simp only [hH]; go_wp2_with fail
          refine ⟨rfl, rfl, by (repeat' (first | (with_reducible exact Below.refl _ _) | (with_reducible assumption) | (with_reducible refine Below.alloc ?_ ?_ _) | (with_reducible refine below_grew ?_ ?_ _) | (with_reducible refine Below.setCell ?_ ?_ _) | (with_reducible refine Below.drew ?_) | (with_reducible refine below_drewN ?_ _) | omega | (simp; done) | (simp; omega))), ?_⟩
          conv => lhs; whnf
          try rfl
        · exact fun _ => rfl
        simp only [List.nil_append, List.cons_append, Nat.reduceAdd]
        simp only [List.nil_append, List.cons_append, Nat.reduceAdd, fillPuts, Act.put, List.setIfInBounds_toArray, List.set_cons_zero, List.set_cons_succ]
        rintro U W hC ⟨h0, h1, h2, h3, h4, h5, h6, h7, h8, h9, h10, h11, h12, h13, h14, h15, h16, h17, h18, h19, h20, -⟩ -
        simp only [h0, h1, h2, h3, h4, h5, h6, h7, h8, h9, h10, h11, h12, h13, h14, h15, h16, h17, h18, h19, h20]
        have HC := Lib.hid hC
        clear h0 h1 h2 h3 h4 h5 h6 h7 h8 h9 h10 h11 h12 h13 h14 h15 h16 h17 h18 h19 h20 hC
        go_wp2_with fail
        go_ret
        exact ⟨rfl, by rw [HBd.out]; exact (HY.out.keep HC.out).below⟩
  · have hin' : ch < 0 ∨ c ≤ ch := by omega
    have HPK := Lib.hid (hpx.out hin')
    clear hpx hpy hin
    go_wp2_with fail
    go_loopw [11, 12] (fun pk cnt wr => cnt = .int .i64 0 ∧ pk = .int .i64 0 ∧ L2 w B st s c wr) (fun _ cnt _ => n - (intOf cnt).toNat)
    case atStart => exact ⟨rfl, rfl, HL2.out⟩
    case round =>
      obtain ⟨rfl, rfl, hL⟩ := hrel
      have HL := Lib.hid hL
      have mA := hL.m0
      have mB := hL.m1
      have hszA := hL.size
      have hnp : 0 < n := by omega
      clear hL
      by_cases hneg : ch < 0
      · have hz : decide (0 ≤ ch) = false := by simpa using hneg
        clear hin' hneg
        go_upto_region 13 with (go_at_call 47; refine (hN.out _).mono ?_; rintro e wn ⟨rfl, hbn⟩; have HYN := Lib.hid (HL.out.keep hbn); have mC := HYN.out.m1; clear hbn)
        refine cut_world (fun Y => L2 w B st s c Y) HYN.out ?_
        clear mA mB mC hszA hnp hz HL HYN
        intro Y hY
        have HY := Lib.hid hY
        have m0 := hY.m0
        have m1 := hY.m1
        have hsz := hY.size
        clear hY
        refine wp_region_inv [] (fun W => Below Y.heap.size Y W) (fun W W' => Below W.heap.size W W') 21 (by kernel_rfl) (by kernel_rfl) (by kernel_rfl) ((Below.refl _ _).drew) (fun W W' h h' => h.trans (h'.mono h.size)) (fun _ _ h => h.size) ?_
        simp only [List.take_succ_cons, List.take_zero, List.drop_succ_cons, List.drop_zero]
        refine wpInv_det (by kernel_rfl) (by kernel_rfl) ?_
        apply Exists.intro
        refine ⟨?_, ?_, ?_⟩
        · intro U W hC hH
          have hc1 := (bcell hC).1
          have hf1 := (bcell hC).2
          simp only [HypsU, predsOf, Region.binds, List.filterMap_cons, List.filterMap_nil, if_true, List.nil_append, List.cons_append, List.getD_cons_zero, List.getD_cons_succ] at hH
          simp only [fillPuts, Act.put, List.setIfInBounds_toArray, List.set_cons_zero, List.set_cons_succ, Nat.reduceAdd]
          refine load_row_g rfl St _ rfl B rfl _ (ag kS 142 st) (0, 0) _ (HY.out.keep hC).st Tryd.underlying97 rfl (infoS_ag _) ?_; go_wp2_with fail
          refine ⟨rfl, rfl, by (repeat' (first | (with_reducible exact Below.refl _ _) | (with_reducible assumption) | (with_reducible refine Below.alloc ?_ ?_ _) | (with_reducible refine below_grew ?_ ?_ _) | (with_reducible refine Below.setCell ?_ ?_ _) | (with_reducible refine Below.drew ?_) | (with_reducible refine below_drewN ?_ _) | omega | (simp; done) | (simp; omega))), ?_⟩
          conv => lhs; whnf
          try rfl
        · exact fun _ => rfl
        simp only [List.nil_append, List.cons_append, Nat.reduceAdd]
        refine wpInv_det (by kernel_rfl) (by kernel_rfl) ?_
        apply Exists.intro
        refine ⟨?_, ?_, ?_⟩
        · intro U W hC hH
          have hc1 := (bcell hC).1
          have hf1 := (bcell hC).2
          simp only [HypsU, predsOf, Region.binds, List.filterMap_cons, List.filterMap_nil, if_true, List.nil_append, List.cons_append, List.getD_cons_zero, List.getD_cons_succ] at hH
          simp only [fillPuts, Act.put, List.setIfInBounds_toArray, List.set_cons_zero, List.set_cons_succ, Nat.reduceAdd]
          go_wp2_with fail
          refine ⟨rfl, rfl, by (repeat' (first | (with_reducible exact Below.refl _ _) | (with_reducible assumption) | (with_reducible refine Below.alloc ?_ ?_ _) | (with_reducible refine below_grew ?_ ?_ _) | (with_reducible refine Below.setCell ?_ ?_ _) | (with_reducible refine Below.drew ?_) | (with_reducible refine below_drewN ?_ _) | omega | (simp; done) | (simp; omega))), ?_⟩
          conv => lhs; whnf
          try rfl
        · exact fun _ => rfl
        simp only [List.nil_append, List.cons_append, Nat.reduceAdd]
        refine wpInv_det (by kernel_rfl) (by kernel_rfl) ?_
        apply Exists.intro
        refine ⟨?_, ?_, ?_⟩
        · intro U W hC hH
          have hc1 := (bcell hC).1
          have hf1 := (bcell hC).2
          simp only [HypsU, predsOf, Region.binds, List.filterMap_cons, List.filterMap_nil, if_true, List.nil_append, List.cons_append, List.getD_cons_zero, List.getD_cons_succ] at hH
          simp only [fillPuts, Act.put, List.setIfInBounds_toArray, List.set_cons_zero, List.set_cons_succ, Nat.reduceAdd]
          go_wp2_with fail; refine (hri.out _).mono ?_; rintro e w' ⟨rfl, hb1⟩; obtain ⟨x1, rfl⟩ := below_as_grew hb1; clear hb1; go_wp2_with fail
          refine ⟨rfl, rfl, by (repeat' (first | (with_reducible exact Below.refl _ _) | (with_reducible assumption) | (with_reducible refine Below.alloc ?_ ?_ _) | (with_reducible refine below_grew ?_ ?_ _) | (with_reducible refine Below.setCell ?_ ?_ _) | (with_reducible refine Below.drew ?_) | (with_reducible refine below_drewN ?_ _) | omega | (simp; done) | (simp; omega))), ?_⟩
          conv => lhs; whnf
          try rfl
        · exact fun _ => rfl
        simp only [List.nil_append, List.cons_append, Nat.reduceAdd]
        refine wpInv_det (by kernel_rfl) (by kernel_rfl) ?_
        apply Exists.intro
        refine ⟨?_, ?_, ?_⟩
        · intro U W hC hH
          have hc1 := (bcell hC).1
          have hf1 := (bcell hC).2
          simp only [HypsU, predsOf, Region.binds, List.filterMap_cons, List.filterMap_nil, if_true, List.nil_append, List.cons_append, List.getD_cons_zero, List.getD_cons_succ] at hH
          simp only [fillPuts, Act.put, List.setIfInBounds_toArray, List.set_cons_zero, List.set_cons_succ, Nat.reduceAdd]
          refine load_row_g rfl St _ rfl B rfl _ (ag kS 142 st) (0, 0) _ (HY.out.keep hC).st Tryd.underlying97 rfl (infoS_ag _) ?_; go_wp2_with fail
          refine ⟨rfl, rfl, by (repeat' (first | (with_reducible exact Below.refl _ _) | (with_reducible assumption) | (with_reducible refine Below.alloc ?_ ?_ _) | (with_reducible refine below_grew ?_ ?_ _) | (with_reducible refine Below.setCell ?_ ?_ _) | (with_reducible refine Below.drew ?_) | (with_reducible refine below_drewN ?_ _) | omega | (simp; done) | (simp; omega))), ?_⟩
          conv => lhs; whnf
          try rfl
        · exact fun _ => rfl
        simp only [List.nil_append, List.cons_append, Nat.reduceAdd]
        refine wpInv_det (by kernel_rfl) (by kernel_rfl) ?_
        apply Exists.intro
        refine ⟨?_, ?_, ?_⟩
        · intro U W hC hH
          have hc1 := (bcell hC).1
          have hf1 := (bcell hC).2
          simp only [HypsU, predsOf, Region.binds, List.filterMap_cons, List.filterMap_nil, if_true, List.nil_append, List.cons_append, List.getD_cons_zero, List.getD_cons_succ] at hH
          simp only [fillPuts, Act.put, List.setIfInBounds_toArray, List.set_cons_zero, List.set_cons_succ, Nat.reduceAdd]
          go_wp2_with fail; refine (hpn.out _).mono ?_; rintro e w' ⟨rfl, hb1⟩; obtain ⟨x1, rfl⟩ := below_as_grew hb1; clear hb1; go_wp2_with fail
          refine ⟨rfl, rfl, by (repeat' (first | (with_reducible exact Below.refl _ _) | (with_reducible assumption) | (with_reducible refine Below.alloc ?_ ?_ _) | (with_reducible refine below_grew ?_ ?_ _) | (with_reducible refine Below.setCell ?_ ?_ _) | (with_reducible refine Below.drew ?_) | (with_reducible refine below_drewN ?_ _) | omega | (simp; done) | (simp; omega))), ?_⟩
          conv => lhs; whnf
          try rfl
        · exact fun _ => rfl
        simp only [List.nil_append, List.cons_append, Nat.reduceAdd]
        refine wpInv_det (by kernel_rfl) (by kernel_rfl) ?_
        apply Exists.intro
        refine ⟨?_, ?_, ?_⟩
        · intro U W hC hH
          have hc1 := (bcell hC).1
          have hf1 := (bcell hC).2
          simp only [HypsU, predsOf, Region.binds, List.filterMap_cons, List.filterMap_nil, if_true, List.nil_append, List.cons_append, List.getD_cons_zero, List.getD_cons_succ] at hH
          simp only [fillPuts, Act.put, List.setIfInBounds_toArray, List.set_cons_zero, List.set_cons_succ, Nat.reduceAdd]
          go_wp2_with fail
          refine ⟨rfl, rfl, by (repeat' (first | (with_reducible exact Below.refl _ _) | (with_reducible assumption) | (with_reducible refine Below.alloc ?_ ?_ _) | (with_reducible refine below_grew ?_ ?_ _) | (with_reducible refine Below.setCell ?_ ?_ _) | (with_reducible refine Below.drew ?_) | (with_reducible refine below_drewN ?_ _) | omega | (simp; done) | (simp; omega))), ?_⟩
          conv => lhs; whnf
          try rfl
        · exact fun _ => rfl
        simp only [List.nil_append, List.cons_append, Nat.reduceAdd]
        refine wpInv_det (by kernel_rfl) (by kernel_rfl) ?_
        apply Exists.intro
        refine ⟨?_, ?_, ?_⟩
        · intro U W hC hH
          have hc1 := (bcell hC).1
          have hf1 := (bcell hC).2
          simp only [HypsU, predsOf, Region.binds, List.filterMap_cons, List.filterMap_nil, if_true, List.nil_append, List.cons_append, List.getD_cons_zero, List.getD_cons_succ] at hH
          simp only [fillPuts, Act.put, List.setIfInBounds_toArray, List.set_cons_zero, List.set_cons_succ, Nat.reduceAdd]
          go_wp2_with fail
          refine ⟨rfl, rfl, by (repeat' (first | (with_reducible exact Below.refl _ _) | (with_reducible assumption) | (with_reducible refine Below.alloc ?_ ?_ _) | (with_reducible refine below_grew ?_ ?_ _) | (with_reducible refine Below.setCell ?_ ?_ _) | (with_reducible refine Below.drew ?_) | (with_reducible refine below_drewN ?_ _) | omega | (simp; done) | (simp; omega))), ?_⟩
          conv => lhs; whnf
          try rfl
        · exact fun _ => rfl
        simp only [List.nil_append, List.cons_append, Nat.reduceAdd]
        refine wpInv_det (by kernel_rfl) (by kernel_rfl) ?_
        apply Exists.intro
        refine ⟨?_, ?_, ?_⟩
        · intro U W hC hH
          have hc1 := (bcell hC).1
          have hf1 := (bcell hC).2
          simp only [HypsU, predsOf, Region.binds, List.filterMap_cons, List.filterMap_nil, if_true, List.nil_append, List.cons_append, List.getD_cons_zero, List.getD_cons_succ] at hH
          simp only [fillPuts, Act.put, List.setIfInBounds_toArray, List.set_cons_zero, List.set_cons_succ, Nat.reduceAdd]
          go_wp2_with fail
          refine ⟨rfl, rfl, by (repeat' (first | (with_reducible exact Below.refl _ _) | (with_reducible assumption) | (with_reducible refine Below.alloc ?_ ?_ _) | (with_reducible refine below_grew ?_ ?_ _) | (with_reducible refine Below.setCell ?_ ?_ _) | (with_reducible refine Below.drew ?_) | (with_reducible refine below_drewN ?_ _) | omega | (simp; done) | (simp; omega))), ?_⟩
          conv => lhs; whnf
          try rfl
        · exact fun _ => rfl
        simp only [List.nil_append, List.cons_append, Nat.reduceAdd]
        refine wpInv_det (by kernel_rfl) (by kernel_rfl) ?_
        apply Exists.intro
        refine ⟨?_, ?_, ?_⟩
        · intro U W hC hH
          have hc1 := (bcell hC).1
          have hf1 := (bcell hC).2
          simp only [HypsU, predsOf, Region.binds, List.filterMap_cons, List.filterMap_nil, if_true, List.nil_append, List.cons_append, List.getD_cons_zero, List.getD_cons_succ] at hH
          simp only [fillPuts, Act.put, List.setIfInBounds_toArray, List.set_cons_zero, List.set_cons_succ, Nat.reduceAdd]
          go_wp2_with fail
          refine ⟨rfl, rfl, by (repeat' (first | (with_reducible exact Below.refl _ _) | (with_reducible assumption) | (with_reducible refine Below.alloc ?_ ?_ _) | (with_reducible refine below_grew ?_ ?_ _) | (with_reducible refine Below.setCell ?_ ?_ _) | (with_reducible refine Below.drew ?_) | (with_reducible refine below_drewN ?_ _) | omega | (simp; done) | (simp; omega))), ?_⟩
          conv => lhs; whnf
          try rfl
        · exact fun _ => rfl
        simp only [List.nil_append, List.cons_append, Nat.reduceAdd]
        refine wpInv_det (by kernel_rfl) (by kernel_rfl) ?_
        apply Exists.intro
        refine ⟨?_, ?_, ?_⟩
        · intro U W hC hH
          have hc1 := (bcell hC).1
          have hf1 := (bcell hC).2
          simp only [HypsU, predsOf, Region.binds, List.filterMap_cons, List.filterMap_nil, if_true, List.nil_append, List.cons_append, List.getD_cons_zero, List.getD_cons_succ] at hH
          simp only [fillPuts, Act.put, List.setIfInBounds_toArray, List.set_cons_zero, List.set_cons_succ, Nat.reduceAdd]
          go_wp2_with fail; refine (hrr2.out _).mono ?_; rintro e w' ⟨rfl, hb1⟩; obtain ⟨x1, rfl⟩ := below_as_grew hb1; clear hb1; go_wp2_with fail
          refine ⟨rfl, rfl, by (repeat' (first | (with_reducible exact Below.refl _ _) | (with_reducible assumption) | (with_reducible refine Below.alloc ?_ ?_ _) | (with_reducible refine below_grew ?_ ?_ _) | (with_reducible refine Below.setCell ?_ ?_ _) | (with_reducible refine Below.drew ?_) | (with_reducible refine below_drewN ?_ _) | omega | (simp; done) | (simp; omega))), ?_⟩
          conv => lhs; whnf
          try rfl
        · exact fun _ => rfl
        simp only [List.nil_append, List.cons_append, Nat.reduceAdd]
        refine wpInv_det (by kernel_rfl) (by kernel_rfl) ?_
        apply Exists.intro
        refine ⟨?_, ?_, ?_⟩
        · intro U W hC hH
          have hc1 := (bcell hC).1
          have hf1 := (bcell hC).2
          simp only [HypsU, predsOf, Region.binds, List.filterMap_cons, List.filterMap_nil, if_true, List.nil_append, List.cons_append, List.getD_cons_zero, List.getD_cons_succ] at hH
          simp only [fillPuts, Act.put, List.setIfInBounds_toArray, List.set_cons_zero, List.set_cons_succ, Nat.reduceAdd]
          simp only [hH]; go_wp2_with fail
          refine ⟨rfl, rfl, by (repeat' (first | (with_reducible exact Below.refl _ _) | (with_reducible assumption) | (with_reducible refine Below.alloc ?_ ?_ _) | (with_reducible refine below_grew ?_ ?_ _) | (with_reducible refine Below.setCell ?_ ?_ _) | (with_reducible refine Below.drew ?_) | (with_reducible refine below_drewN ?_ _) | omega | (simp; done) | (simp; omega))), ?_⟩
          conv => lhs; whnf
          try rfl
        · exact fun _ => rfl
        simp only [List.nil_append, List.cons_append, Nat.reduceAdd]
        refine wpInv_det (by kernel_rfl) (by kernel_rfl) ?_
        apply Exists.intro
        refine ⟨?_, ?_, ?_⟩
        · intro U W hC hH
          have hc1 := (bcell hC).1
          have hf1 := (bcell hC).2
          simp only [HypsU, predsOf, Region.binds, List.filterMap_cons, List.filterMap_nil, if_true, List.nil_append, List.cons_append, List.getD_cons_zero, List.getD_cons_succ] at hH
          simp only [fillPuts, Act.put, List.setIfInBounds_toArray, List.set_cons_zero, List.set_cons_succ, Nat.reduceAdd]
          simp only [hH]; go_wp2_with fail
          refine ⟨rfl, rfl, by (repeat' (first | (with_reducible exact Below.refl _ _) | (with_reducible assumption) | (with_reducible refine Below.alloc ?_ ?_ _) | (with_reducible refine below_grew ?_ ?_ _) | (with_reducible refine Below.setCell ?_ ?_ _) | (with_reducible refine Below.drew ?_) | (with_reducible refine below_drewN ?_ _) | omega | (simp; done) | (simp; omega))), ?_⟩
          conv => lhs; whnf
          try rfl
        · exact fun _ => rfl
        simp only [List.nil_append, List.cons_append, Nat.reduceAdd]
        refine wpInv_det (by kernel_rfl) (by kernel_rfl) ?_
        apply Exists.intro
        refine ⟨?_, ?_, ?_⟩
        · intro U W hC hH
          have hc1 := (bcell hC).1
          have hf1 := (bcell hC).2
          simp only [HypsU, predsOf, Region.binds, List.filterMap_cons, List.filterMap_nil, if_true, List.nil_append, List.cons_append, List.getD_cons_zero, List.getD_cons_succ] at hH
          simp only [fillPuts, Act.put, List.setIfInBounds_toArray, List.set_cons_zero, List.set_cons_succ, Nat.reduceAdd]
          simp only [hH]; refine load_row_g rfl St _ rfl B rfl _ (ag kS 142 st) (0, 0) _ (HY.out.keep hC).st Tryd.underlying97 rfl (infoS_ag _) ?_; go_wp2_with fail
          refine ⟨rfl, rfl, by (repeat' (first | (with_reducible exact Below.refl _ _) | (with_reducible assumption) | (with_reducible refine Below.alloc ?_ ?_ _) | (with_reducible refine below_grew ?_ ?_ _) | (with_reducible refine Below.setCell ?_ ?_ _) | (with_reducible refine Below.drew ?_) | (with_reducible refine below_drewN ?_ _) | omega | (simp; done) | (simp; omega))), ?_⟩
          conv => lhs; whnf
          try rfl
        · exact fun _ => rfl
        simp only [List.nil_append, List.cons_append, Nat.reduceAdd]
        refine wpInv_det (by kernel_rfl) (by kernel_rfl) ?_
        apply Exists.intro
        refine ⟨?_, ?_, ?_⟩
        · intro U W hC hH
          have hc1 := (bcell hC).1
          have hf1 := (bcell hC).2
          simp only [HypsU, predsOf, Region.binds, List.filterMap_cons, List.filterMap_nil, if_true, List.nil_append, List.cons_append, List.getD_cons_zero, List.getD_cons_succ] at hH
          simp only [fillPuts, Act.put, List.setIfInBounds_toArray, List.set_cons_zero, List.set_cons_succ, Nat.reduceAdd]
          simp only [hH]; go_wp2_with fail
          refine ⟨rfl, rfl, by (repeat' (first | (with_reducible exact Below.refl _ _) | (with_reducible assumption) | (with_reducible refine Below.alloc ?_ ?_ _) | (with_reducible refine below_grew ?_ ?_ _) | (with_reducible refine Below.setCell ?_ ?_ _) | (with_reducible refine Below.drew ?_) | (with_reducible refine below_drewN ?_ _) | omega | (simp; done) | (simp; omega))), ?_⟩
          conv => lhs; whnf
          try rfl
        · exact fun _ => rfl
        simp only [List.nil_append, List.cons_append, Nat.reduceAdd]
        refine wpInv_det (by kernel_rfl) (by kernel_rfl) ?_
        apply Exists.intro
        refine ⟨?_, ?_, ?_⟩
        · intro U W hC hH
          have hc1 := (bcell hC).1
          have hf1 := (bcell hC).2
          simp only [HypsU, predsOf, Region.binds, List.filterMap_cons, List.filterMap_nil, if_true, List.nil_append, List.cons_append, List.getD_cons_zero, List.getD_cons_succ] at hH
          simp only [fillPuts, Act.put, List.setIfInBounds_toArray, List.set_cons_zero, List.set_cons_succ, Nat.reduceAdd]
          simp only [hH]; go_wp2_with fail
          refine ⟨rfl, rfl, by (repeat' (first | (with_reducible exact Below.refl _ _) | (with_reducible assumption) | (with_reducible refine Below.alloc ?_ ?_ _) | (with_reducible refine below_grew ?_ ?_ _) | (with_reducible refine Below.setCell ?_ ?_ _) | (with_reducible refine Below.drew ?_) | (with_reducible refine below_drewN ?_ _) | omega | (simp; done) | (simp; omega))), ?_⟩
          conv => lhs; whnf
          try rfl
        · exact fun _ => rfl
        simp only [List.nil_append, List.cons_append, Nat.reduceAdd]
        refine wpInv_det (by kernel_rfl) (by kernel_rfl) ?_
        apply Exists.intro
        refine ⟨?_, ?_, ?_⟩
        · intro U W hC hH
          have hc1 := (bcell hC).1
          have hf1 := (bcell hC).2
          simp only [HypsU, predsOf, Region.binds, List.filterMap_cons, List.filterMap_nil, if_true, List.nil_append, List.cons_append, List.getD_cons_zero, List.getD_cons_succ] at hH
          simp only [fillPuts, Act.put, List.setIfInBounds_toArray, List.set_cons_zero, List.set_cons_succ, Nat.reduceAdd]
          simp only [hH]; go_wp2_with fail; refine (HPK.out _).mono ?_; rintro e w' ⟨rfl, hb1⟩; obtain ⟨x1, rfl⟩ := below_as_grew hb1; clear hb1; go_wp2_with fail
          refine ⟨rfl, rfl, by (repeat' (first | (with_reducible exact Below.refl _ _) | (with_reducible assumption) | (with_reducible refine Below.alloc ?_ ?_ _) | (with_reducible refine below_grew ?_ ?_ _) | (with_reducible refine Below.setCell ?_ ?_ _) | (with_reducible refine Below.drew ?_) | (with_reducible refine below_drewN ?_ _) | omega | (simp; done) | (simp; omega))), ?_⟩
          conv => lhs; whnf
          try rfl
        · exact fun _ => rfl
        simp only [List.nil_append, List.cons_append, Nat.reduceAdd]
        refine wpInv_det (by kernel_rfl) (by kernel_rfl) ?_
        apply Exists.intro
        refine ⟨?_, ?_, ?_⟩
        · intro U W hC hH
          have hc1 := (bcell hC).1
          have hf1 := (bcell hC).2
          simp only [HypsU, predsOf, Region.binds, List.filterMap_cons, List.filterMap_nil, if_true, List.nil_append, List.cons_append, List.getD_cons_zero, List.getD_cons_succ] at hH
          simp only [fillPuts, Act.put, List.setIfInBounds_toArray, List.set_cons_zero, List.set_cons_succ, Nat.reduceAdd]
          simp only [hH]; go_wp2_with fail
          refine ⟨rfl, rfl, by (repeat' (first | (with_reducible exact Below.refl _ _) | (with_reducible assumption) | (with_reducible refine Below.alloc ?_ ?_ _) | (with_reducible refine below_grew ?_ ?_ _) | (with_reducible refine Below.setCell ?_ ?_ _) | (with_reducible refine Below.drew ?_) | (with_reducible refine below_drewN ?_ _) | omega | (simp; done) | (simp; omega))), ?_⟩
          conv => lhs; whnf
          try rfl
        · exact fun _ => rfl
        simp only [List.nil_append, List.cons_append, Nat.reduceAdd]
        refine wpInv_det (by kernel_rfl) (by kernel_rfl) ?_
        apply Exists.intro
        refine ⟨?_, ?_, ?_⟩
        · intro U W hC hH
          have hc1 := (bcell hC).1
          have hf1 := (bcell hC).2
          simp only [HypsU, predsOf, Region.binds, List.filterMap_cons, List.filterMap_nil, if_true, List.nil_append, List.cons_append, List.getD_cons_zero, List.getD_cons_succ] at hH
          simp only [fillPuts, Act.put, List.setIfInBounds_toArray, List.set_cons_zero, List.set_cons_succ, Nat.reduceAdd]
          simp only [hH]; go_wp2_with fail
          refine ⟨rfl, rfl, by (repeat' (first | (with_reducible exact Below.refl _ _) | (with_reducible assumption) | (with_reducible refine Below.alloc ?_ ?_ _) | (with_reducible refine below_grew ?_ ?_ _) | (with_reducible refine Below.setCell ?_ ?_ _) | (with_reducible refine Below.drew ?_) | (with_reducible refine below_drewN ?_ _) | omega | (simp; done) | (simp; omega))), ?_⟩
          conv => lhs; whnf
          try rfl
        · exact fun _ => rfl
        simp only [List.nil_append, List.cons_append, Nat.reduceAdd]
        refine wpInv_det (by kernel_rfl) (by kernel_rfl) ?_
        apply Exists.intro
        refine ⟨?_, ?_, ?_⟩
        · intro U W hC hH
          have hc1 := (bcell hC).1
          have hf1 := (bcell hC).2
          simp only [HypsU, predsOf, Region.binds, List.filterMap_cons, List.filterMap_nil, if_true, List.nil_append, List.cons_append, List.getD_cons_zero, List.getD_cons_succ] at hH
          simp only [fillPuts, Act.put, List.setIfInBounds_toArray, List.set_cons_zero, List.set_cons_succ, Nat.reduceAdd]
          simp only [hH]; go_wp2_with fail
          refine ⟨rfl, rfl, by (repeat' (first | (with_reducible exact Below.refl _ _) | (with_reducible assumption) | (with_reducible refine Below.alloc ?_ ?_ _) | (with_reducible refine below_grew ?_ ?_ _) | (with_reducible refine Below.setCell ?_ ?_ _) | (with_reducible refine Below.drew ?_) | (with_reducible refine below_drewN ?_ _) | omega | (simp; done) | (simp; omega))), ?_⟩
          conv => lhs; whnf
          try rfl
        · exact fun _ => rfl
        simp only [List.nil_append, List.cons_append, Nat.reduceAdd]
        refine wpInv_det (by kernel_rfl) (by kernel_rfl) ?_
        apply Exists.intro
        refine ⟨?_, ?_, ?_⟩
        · intro U W hC hH
          have hc1 := (bcell hC).1
          have hf1 := (bcell hC).2
          simp only [HypsU, predsOf, Region.binds, List.filterMap_cons, List.filterMap_nil, if_true, List.nil_append, List.cons_append, List.getD_cons_zero, List.getD_cons_succ] at hH
          simp only [fillPuts, Act.put, List.setIfInBounds_toArray, List.set_cons_zero, List.set_cons_succ, Nat.reduceAdd]
          simp only [hH]; go_wp2_with fail
          refine ⟨rfl, rfl, by (repeat' (first | (with_reducible exact Below.refl _ _) | (with_reducible assumption) | (with_reducible refine Below.alloc ?_ ?_ _) | (with_reducible refine below_grew ?_ ?_ _) | (with_reducible refine Below.setCell ?_ ?_ _) | (with_reducible refine Below.drew ?_) | (with_reducible refine below_drewN ?_ _) | omega | (simp; done) | (simp; omega))), ?_⟩
          conv => lhs; whnf
          try rfl
        · exact fun _ => rfl
        simp only [List.nil_append, List.cons_append, Nat.reduceAdd]
        refine wpInv_det (by kernel_rfl) (by kernel_rfl) ?_
        apply Exists.intro
        refine ⟨?_, ?_, ?_⟩
        · intro U W hC hH
          have hc1 := (bcell hC).1
          have hf1 := (bcell hC).2
          simp only [HypsU, predsOf, Region.binds, List.filterMap_cons, List.filterMap_nil, if_true, List.nil_append, List.cons_append, List.getD_cons_zero, List.getD_cons_succ] at hH
          simp only [fillPuts, Act.put, List.setIfInBounds_toArray, List.set_cons_zero, List.set_cons_succ, Nat.reduceAdd]
          simp only [hH]; go_wp2_with fail
          refine ⟨rfl, rfl, by (repeat' (first | (with_reducible exact Below.refl _ _) | (with_reducible assumption) | (with_reducible refine Below.alloc ?_ ?_ _) | (with_reducible refine below_grew ?_ ?_ _) | (with_reducible refine Below.setCell ?_ ?_ _) | (with_reducible refine Below.drew ?_) | (with_reducible refine below_drewN ?_ _) | omega | (simp; done) | (simp; omega))), ?_⟩
          conv => lhs; whnf
          try rfl
        · exact fun _ => rfl
        simp only [List.nil_append, List.cons_append, Nat.reduceAdd]
        simp only [List.nil_append, List.cons_append, Nat.reduceAdd, fillPuts, Act.put, List.setIfInBounds_toArray, List.set_cons_zero, List.set_cons_succ]
        rintro U W hC ⟨h0, h1, h2, h3, h4, h5, h6, h7, h8, h9, h10, h11, h12, h13, h14, h15, h16, h17, h18, h19, h20, -⟩ -
        simp only [h0, h1, h2, h3, h4, h5, h6, h7, h8, h9, h10, h11, h12, h13, h14, h15, h16, h17, h18, h19, h20]
        have HC := Lib.hid hC
        clear h0 h1 h2 h3 h4 h5 h6 h7 h8 h9 h10 h11 h12 h13 h14 h15 h16 h17 h18 h19 h20 hC
        go_wp2_with fail
        go_ret
        exact ⟨rfl, by rw [HBd.out]; exact (HY.out.keep HC.out).below⟩
      · have hz : decide (0 ≤ ch) = true := decide_eq_true (by omega)
        have hge : decide (ch < (c : Int)) = false := decide_eq_false (by omega)
        clear hin' hneg
        go_upto_region 13 with (go_at_call 47; refine (hN.out _).mono ?_; rintro e wn ⟨rfl, hbn⟩; have HYN := Lib.hid (HL.out.keep hbn); have mC := HYN.out.m1; clear hbn)
        refine cut_world (fun Y => L2 w B st s c Y) HYN.out ?_
        clear mA mB mC hszA hnp hz hge HL HYN
        intro Y hY
        have HY := Lib.hid hY
        have m0 := hY.m0
        have m1 := hY.m1
        have hsz := hY.size
        clear hY
        refine wp_region_inv [] (fun W => Below Y.heap.size Y W) (fun W W' => Below W.heap.size W W') 21 (by kernel_rfl) (by kernel_rfl) (by kernel_rfl) ((Below.refl _ _).drew) (fun W W' h h' => h.trans (h'.mono h.size)) (fun _ _ h => h.size) ?_
        simp only [List.take_succ_cons, List.take_zero, List.drop_succ_cons, List.drop_zero]
        refine wpInv_det (by kernel_rfl) (by kernel_rfl) ?_
        apply Exists.intro
        refine ⟨?_, ?_, ?_⟩
        · intro U W hC hH
          have hc1 := (bcell hC).1
          have hf1 := (bcell hC).2
          simp only [HypsU, predsOf, Region.binds, List.filterMap_cons, List.filterMap_nil, if_true, List.nil_append, List.cons_append, List.getD_cons_zero, List.getD_cons_succ] at hH
          simp only [fillPuts, Act.put, List.setIfInBounds_toArray, List.set_cons_zero, List.set_cons_succ, Nat.reduceAdd]
          refine load_row_g rfl St _ rfl B rfl _ (ag kS 142 st) (0, 0) _ (HY.out.keep hC).st Tryd.underlying97 rfl (infoS_ag _) ?_; go_wp2_with fail
          refine ⟨rfl, rfl, by (repeat' (first | (with_reducible exact Below.refl _ _) | (with_reducible assumption) | (with_reducible refine Below.alloc ?_ ?_ _) | (with_reducible refine below_grew ?_ ?_ _) | (with_reducible refine Below.setCell ?_ ?_ _) | (with_reducible refine Below.drew ?_) | (with_reducible refine below_drewN ?_ _) | omega | (simp; done) | (simp; omega))), ?_⟩
          conv => lhs; whnf
          try rfl
        · exact fun _ => rfl
        simp only [List.nil_append, List.cons_append, Nat.reduceAdd]
        refine wpInv_det (by kernel_rfl) (by kernel_rfl) ?_
        apply Exists.intro
        refine ⟨?_, ?_, ?_⟩
        · intro U W hC hH
          have hc1 := (bcell hC).1
          have hf1 := (bcell hC).2
          simp only [HypsU, predsOf, Region.binds, List.filterMap_cons, List.filterMap_nil, if_true, List.nil_append, List.cons_append, List.getD_cons_zero, List.getD_cons_succ] at hH
          simp only [fillPuts, Act.put, List.setIfInBounds_toArray, List.set_cons_zero, List.set_cons_succ, Nat.reduceAdd]
          go_wp2_with fail
          refine ⟨rfl, rfl, by (repeat' (first | (with_reducible exact Below.refl _ _) | (with_reducible assumption) | (with_reducible refine Below.alloc ?_ ?_ _) | (with_reducible refine below_grew ?_ ?_ _) | (with_reducible refine Below.setCell ?_ ?_ _) | (with_reducible refine Below.drew ?_) | (with_reducible refine below_drewN ?_ _) | omega | (simp; done) | (simp; omega))), ?_⟩
          conv => lhs; whnf
          try rfl
        · exact fun _ => rfl
        simp only [List.nil_append, List.cons_append, Nat.reduceAdd]
        refine wpInv_det (by kernel_rfl) (by kernel_rfl) ?_
        apply Exists.intro
        refine ⟨?_, ?_, ?_⟩
        · intro U W hC hH
          have hc1 := (bcell hC).1
          have hf1 := (bcell hC).2
          simp only [HypsU, predsOf, Region.binds, List.filterMap_cons, List.filterMap_nil, if_true, List.nil_append, List.cons_append, List.getD_cons_zero, List.getD_cons_succ] at hH
          simp only [fillPuts, Act.put, List.setIfInBounds_toArray, List.set_cons_zero, List.set_cons_succ, Nat.reduceAdd]
          go_wp2_with fail; refine (hri.out _).mono ?_; rintro e w' ⟨rfl, hb1⟩; obtain ⟨x1, rfl⟩ := below_as_grew hb1; clear hb1; go_wp2_with fail
          refine ⟨rfl, rfl, by (repeat' (first | (with_reducible exact Below.refl _ _) | (with_reducible assumption) | (with_reducible refine Below.alloc ?_ ?_ _) | (with_reducible refine below_grew ?_ ?_ _) | (with_reducible refine Below.setCell ?_ ?_ _) | (with_reducible refine Below.drew ?_) | (with_reducible refine below_drewN ?_ _) | omega | (simp; done) | (simp; omega))), ?_⟩
          conv => lhs; whnf
          try rfl
        · exact fun _ => rfl
        simp only [List.nil_append, List.cons_append, Nat.reduceAdd]
        refine wpInv_det (by kernel_rfl) (by kernel_rfl) ?_
        apply Exists.intro
        refine ⟨?_, ?_, ?_⟩
        · intro U W hC hH
          have hc1 := (bcell hC).1
          have hf1 := (bcell hC).2
          simp only [HypsU, predsOf, Region.binds, List.filterMap_cons, List.filterMap_nil, if_true, List.nil_append, List.cons_append, List.getD_cons_zero, List.getD_cons_succ] at hH
          simp only [fillPuts, Act.put, List.setIfInBounds_toArray, List.set_cons_zero, List.set_cons_succ, Nat.reduceAdd]
          refine load_row_g rfl St _ rfl B rfl _ (ag kS 142 st) (0, 0) _ (HY.out.keep hC).st Tryd.underlying97 rfl (infoS_ag _) ?_; go_wp2_with fail
          refine ⟨rfl, rfl, by (repeat' (first | (with_reducible exact Below.refl _ _) | (with_reducible assumption) | (with_reducible refine Below.alloc ?_ ?_ _) | (with_reducible refine below_grew ?_ ?_ _) | (with_reducible refine Below.setCell ?_ ?_ _) | (with_reducible refine Below.drew ?_) | (with_reducible refine below_drewN ?_ _) | omega | (simp; done) | (simp; omega))), ?_⟩
          conv => lhs; whnf
          try rfl
        · exact fun _ => rfl
        simp only [List.nil_append, List.cons_append, Nat.reduceAdd]
        refine wpInv_det (by kernel_rfl) (by kernel_rfl) ?_
        apply Exists.intro
        refine ⟨?_, ?_, ?_⟩
        · intro U W hC hH
          have hc1 := (bcell hC).1
          have hf1 := (bcell hC).2
          simp only [HypsU, predsOf, Region.binds, List.filterMap_cons, List.filterMap_nil, if_true, List.nil_append, List.cons_append, List.getD_cons_zero, List.getD_cons_succ] at hH
          simp only [fillPuts, Act.put, List.setIfInBounds_toArray, List.set_cons_zero, List.set_cons_succ, Nat.reduceAdd]
          go_wp2_with fail; refine (hpn.out _).mono ?_; rintro e w' ⟨rfl, hb1⟩; obtain ⟨x1, rfl⟩ := below_as_grew hb1; clear hb1; go_wp2_with fail
          refine ⟨rfl, rfl, by (repeat' (first | (with_reducible exact Below.refl _ _) | (with_reducible assumption) | (with_reducible refine Below.alloc ?_ ?_ _) | (with_reducible refine below_grew ?_ ?_ _) | (with_reducible refine Below.setCell ?_ ?_ _) | (with_reducible refine Below.drew ?_) | (with_reducible refine below_drewN ?_ _) | omega | (simp; done) | (simp; omega))), ?_⟩
          conv => lhs; whnf
          try rfl
        · exact fun _ => rfl
        simp only [List.nil_append, List.cons_append, Nat.reduceAdd]
        refine wpInv_det (by kernel_rfl) (by kernel_rfl) ?_
        apply Exists.intro
        refine ⟨?_, ?_, ?_⟩
        · intro U W hC hH
          have hc1 := (bcell hC).1
          have hf1 := (bcell hC).2
          simp only [HypsU, predsOf, Region.binds, List.filterMap_cons, List.filterMap_nil, if_true, List.nil_append, List.cons_append, List.getD_cons_zero, List.getD_cons_succ] at hH
          simp only [fillPuts, Act.put, List.setIfInBounds_toArray, List.set_cons_zero, List.set_cons_succ, Nat.reduceAdd]
          go_wp2_with fail
          refine ⟨rfl, rfl, by (repeat' (first | (with_reducible exact Below.refl _ _) | (with_reducible assumption) | (with_reducible refine Below.alloc ?_ ?_ _) | (with_reducible refine below_grew ?_ ?_ _) | (with_reducible refine Below.setCell ?_ ?_ _) | (with_reducible refine Below.drew ?_) | (with_reducible refine below_drewN ?_ _) | omega | (simp; done) | (simp; omega))), ?_⟩
          conv => lhs; whnf
          try rfl
        · exact fun _ => rfl
        simp only [List.nil_append, List.cons_append, Nat.reduceAdd]
        refine wpInv_det (by kernel_rfl) (by kernel_rfl) ?_
        apply Exists.intro
        refine ⟨?_, ?_, ?_⟩
        · intro U W hC hH
          have hc1 := (bcell hC).1
          have hf1 := (bcell hC).2
          simp only [HypsU, predsOf, Region.binds, List.filterMap_cons, List.filterMap_nil, if_true, List.nil_append, List.cons_append, List.getD_cons_zero, List.getD_cons_succ] at hH
          simp only [fillPuts, Act.put, List.setIfInBounds_toArray, List.set_cons_zero, List.set_cons_succ, Nat.reduceAdd]
          go_wp2_with fail
          refine ⟨rfl, rfl, by (repeat' (first | (with_reducible exact Below.refl _ _) | (with_reducible assumption) | (with_reducible refine Below.alloc ?_ ?_ _) | (with_reducible refine below_grew ?_ ?_ _) | (with_reducible refine Below.setCell ?_ ?_ _) | (with_reducible refine Below.drew ?_) | (with_reducible refine below_drewN ?_ _) | omega | (simp; done) | (simp; omega))), ?_⟩
          conv => lhs; whnf
          try rfl
        · exact fun _ => rfl
        simp only [List.nil_append, List.cons_append, Nat.reduceAdd]
        refine wpInv_det (by kernel_rfl) (by kernel_rfl) ?_
        apply Exists.intro
        refine ⟨?_, ?_, ?_⟩
        · intro U W hC hH
          have hc1 := (bcell hC).1
          have hf1 := (bcell hC).2
          simp only [HypsU, predsOf, Region.binds, List.filterMap_cons, List.filterMap_nil, if_true, List.nil_append, List.cons_append, List.getD_cons_zero, List.getD_cons_succ] at hH
          simp only [fillPuts, Act.put, List.setIfInBounds_toArray, List.set_cons_zero, List.set_cons_succ, Nat.reduceAdd]
          go_wp2_with fail
          refine ⟨rfl, rfl, by (repeat' (first | (with_reducible exact Below.refl _ _) | (with_reducible assumption) | (with_reducible refine Below.alloc ?_ ?_ _) | (with_reducible refine below_grew ?_ ?_ _) | (with_reducible refine Below.setCell ?_ ?_ _) | (with_reducible refine Below.drew ?_) | (with_reducible refine below_drewN ?_ _) | omega | (simp; done) | (simp; omega))), ?_⟩
          conv => lhs; whnf
          try rfl
        · exact fun _ => rfl
        simp only [List.nil_append, List.cons_append, Nat.reduceAdd]
        refine wpInv_det (by kernel_rfl) (by kernel_rfl) ?_
        apply Exists.intro
        refine ⟨?_, ?_, ?_⟩
        · intro U W hC hH
          have hc1 := (bcell hC).1
          have hf1 := (bcell hC).2
          simp only [HypsU, predsOf, Region.binds, List.filterMap_cons, List.filterMap_nil, if_true, List.nil_append, List.cons_append, List.getD_cons_zero, List.getD_cons_succ] at hH
          simp only [fillPuts, Act.put, List.setIfInBounds_toArray, List.set_cons_zero, List.set_cons_succ, Nat.reduceAdd]
          go_wp2_with fail
          refine ⟨rfl, rfl, by (repeat' (first | (with_reducible exact Below.refl _ _) | (with_reducible assumption) | (with_reducible refine Below.alloc ?_ ?_ _) | (with_reducible refine below_grew ?_ ?_ _) | (with_reducible refine Below.setCell ?_ ?_ _) | (with_reducible refine Below.drew ?_) | (with_reducible refine below_drewN ?_ _) | omega | (simp; done) | (simp; omega))), ?_⟩
          conv => lhs; whnf
          try rfl
        · exact fun _ => rfl
        simp only [List.nil_append, List.cons_append, Nat.reduceAdd]
        refine wpInv_det (by kernel_rfl) (by kernel_rfl) ?_
        apply Exists.intro
        refine ⟨?_, ?_, ?_⟩
        · intro U W hC hH
          have hc1 := (bcell hC).1
          have hf1 := (bcell hC).2
          simp only [HypsU, predsOf, Region.binds, List.filterMap_cons, List.filterMap_nil, if_true, List.nil_append, List.cons_append, List.getD_cons_zero, List.getD_cons_succ] at hH
          simp only [fillPuts, Act.put, List.setIfInBounds_toArray, List.set_cons_zero, List.set_cons_succ, Nat.reduceAdd]
          go_wp2_with fail; refine (hrr2.out _).mono ?_; rintro e w' ⟨rfl, hb1⟩; obtain ⟨x1, rfl⟩ := below_as_grew hb1; clear hb1; go_wp2_with fail
          refine ⟨rfl, rfl, by (repeat' (first | (with_reducible exact Below.refl _ _) | (with_reducible assumption) | (with_reducible refine Below.alloc ?_ ?_ _) | (with_reducible refine below_grew ?_ ?_ _) | (with_reducible refine Below.setCell ?_ ?_ _) | (with_reducible refine Below.drew ?_) | (with_reducible refine below_drewN ?_ _) | omega | (simp; done) | (simp; omega))), ?_⟩
          conv => lhs; whnf
          try rfl
        · exact fun _ => rfl
        simp only [List.nil_append, List.cons_append, Nat.reduceAdd]
        refine wpInv_det (by kernel_rfl) (by kernel_rfl) ?_
        apply Exists.intro
        refine ⟨?_, ?_, ?_⟩
        · intro U W hC hH
          have hc1 := (bcell hC).1
          have hf1 := (bcell hC).2
          simp only [HypsU, predsOf, Region.binds, List.filterMap_cons, List.filterMap_nil, if_true, List.nil_append, List.cons_append, List.getD_cons_zero, List.getD_cons_succ] at hH
          simp only [fillPuts, Act.put, List.setIfInBounds_toArray, List.set_cons_zero, List.set_cons_succ, Nat.reduceAdd]
          simp only [hH]; go_wp2_with fail
          refine ⟨rfl, rfl, by (repeat' (first | (with_reducible exact Below.refl _ _) | (with_reducible assumption) | (with_reducible refine Below.alloc ?_ ?_ _) | (with_reducible refine below_grew ?_ ?_ _) | (with_reducible refine Below.setCell ?_ ?_ _) | (with_reducible refine Below.drew ?_) | (with_reducible refine below_drewN ?_ _) | omega | (simp; done) | (simp; omega))), ?_⟩
          conv => lhs; whnf
          try rfl
        · exact fun _ => rfl
        simp only [List.nil_append, List.cons_append, Nat.reduceAdd]
        refine wpInv_det (by kernel_rfl) (by kernel_rfl) ?_
        apply Exists.intro
        refine ⟨?_, ?_, ?_⟩
        · intro U W hC hH
          have hc1 := (bcell hC).1
          have hf1 := (bcell hC).2
          simp only [HypsU, predsOf, Region.binds, List.filterMap_cons, List.filterMap_nil, if_true, List.nil_append, List.cons_append, List.getD_cons_zero, List.getD_cons_succ] at hH
          simp only [fillPuts, Act.put, List.setIfInBounds_toArray, List.set_cons_zero, List.set_cons_succ, Nat.reduceAdd]
          simp only [hH]; go_wp2_with fail
          refine ⟨rfl, rfl, by (repeat' (first | (with_reducible exact Below.refl _ _) | (with_reducible assumption) | (with_reducible refine Below.alloc ?_ ?_ _) | (with_reducible refine below_grew ?_ ?_ _) | (with_reducible refine Below.setCell ?_ ?_ _) | (with_reducible refine Below.drew ?_) | (with_reducible refine below_drewN ?_ _) | omega | (simp; done) | (simp; omega))), ?_⟩
          conv => lhs; whnf
          try rfl
        · exact fun _ => rfl
        simp only [List.nil_append, List.cons_append, Nat.reduceAdd]
        refine wpInv_det (by kernel_rfl) (by kernel_rfl) ?_
        apply Exists.intro
        refine ⟨?_, ?_, ?_⟩
        · intro U W hC hH
          have hc1 := (bcell hC).1
          have hf1 := (bcell hC).2
          simp only [HypsU, predsOf, Region.binds, List.filterMap_cons, List.filterMap_nil, if_true, List.nil_append, List.cons_append, List.getD_cons_zero, List.getD_cons_succ] at hH
          simp only [fillPuts, Act.put, List.setIfInBounds_toArray, List.set_cons_zero, List.set_cons_succ, Nat.reduceAdd]
          simp only [hH]; refine load_row_g rfl St _ rfl B rfl _ (ag kS 142 st) (0, 0) _ (HY.out.keep hC).st Tryd.underlying97 rfl (infoS_ag _) ?_; go_wp2_with fail
          refine ⟨rfl, rfl, by (repeat' (first | (with_reducible exact Below.refl _ _) | (with_reducible assumption) | (with_reducible refine Below.alloc ?_ ?_ _) | (with_reducible refine below_grew ?_ ?_ _) | (with_reducible refine Below.setCell ?_ ?_ _) | (with_reducible refine Below.drew ?_) | (with_reducible refine below_drewN ?_ _) | omega | (simp; done) | (simp; omega))), ?_⟩
          conv => lhs; whnf
          try rfl
        · exact fun _ => rfl
        simp only [List.nil_append, List.cons_append, Nat.reduceAdd]
        refine wpInv_det (by kernel_rfl) (by kernel_rfl) ?_
        apply Exists.intro
        refine ⟨?_, ?_, ?_⟩
        · intro U W hC hH
          have hc1 := (bcell hC).1
          have hf1 := (bcell hC).2
          simp only [HypsU, predsOf, Region.binds, List.filterMap_cons, List.filterMap_nil, if_true, List.nil_append, List.cons_append, List.getD_cons_zero, List.getD_cons_succ] at hH
          simp only [fillPuts, Act.put, List.setIfInBounds_toArray, List.set_cons_zero, List.set_cons_succ, Nat.reduceAdd]
          simp only [hH]; go_wp2_with fail
          refine ⟨rfl, rfl, by (repeat' (first | (with_reducible exact Below.refl _ _) | (with_reducible assumption) | (with_reducible refine Below.alloc ?_ ?_ _) | (with_reducible refine below_grew ?_ ?_ _) | (with_reducible refine Below.setCell ?_ ?_ _) | (with_reducible refine Below.drew ?_) | (with_reducible refine below_drewN ?_ _) | omega | (simp; done) | (simp; omega))), ?_⟩
          conv => lhs; whnf
          try rfl
        · exact fun _ => rfl
        simp only [List.nil_append, List.cons_append, Nat.reduceAdd]
        refine wpInv_det (by kernel_rfl) (by kernel_rfl) ?_
        apply Exists.intro
        refine ⟨?_, ?_, ?_⟩
        · intro U W hC hH
          have hc1 := (bcell hC).1
          have hf1 := (bcell hC).2
          simp only [HypsU, predsOf, Region.binds, List.filterMap_cons, List.filterMap_nil, if_true, List.nil_append, List.cons_append, List.getD_cons_zero, List.getD_cons_succ] at hH
          simp only [fillPuts, Act.put, List.setIfInBounds_toArray, List.set_cons_zero, List.set_cons_succ, Nat.reduceAdd]
          simp only [hH]; go_wp2_with fail
          refine ⟨rfl, rfl, by (repeat' (first | (with_reducible exact Below.refl _ _) | (with_reducible assumption) | (with_reducible refine Below.alloc ?_ ?_ _) | (with_reducible refine below_grew ?_ ?_ _) | (with_reducible refine Below.setCell ?_ ?_ _) | (with_reducible refine Below.drew ?_) | (with_reducible refine below_drewN ?_ _) | omega | (simp; done) | (simp; omega))), ?_⟩
          conv => lhs; whnf
          try rfl
        · exact fun _ => rfl
        simp only [List.nil_append, List.cons_append, Nat.reduceAdd]
        refine wpInv_det (by kernel_rfl) (by kernel_rfl) ?_
        apply Exists.intro
        refine ⟨?_, ?_, ?_⟩
        · intro U W hC hH
          have hc1 := (bcell hC).1
          have hf1 := (bcell hC).2
          simp only [HypsU, predsOf, Region.binds, List.filterMap_cons, List.filterMap_nil, if_true, List.nil_append, List.cons_append, List.getD_cons_zero, List.getD_cons_succ] at hH
          simp only [fillPuts, Act.put, List.setIfInBounds_toArray, List.set_cons_zero, List.set_cons_succ, Nat.reduceAdd]
          simp only [hH]; go_wp2_with fail; refine (HPK.out _).mono ?_; rintro e w' ⟨rfl, hb1⟩; obtain ⟨x1, rfl⟩ := below_as_grew hb1; clear hb1; go_wp2_with fail
          refine ⟨rfl, rfl, by (repeat' (first | (with_reducible exact Below.refl _ _) | (with_reducible assumption) | (with_reducible refine Below.alloc ?_ ?_ _) | (with_reducible refine below_grew ?_ ?_ _) | (with_reducible refine Below.setCell ?_ ?_ _) | (with_reducible refine Below.drew ?_) | (with_reducible refine below_drewN ?_ _) | omega | (simp; done) | (simp; omega))), ?_⟩
          conv => lhs; whnf
          try rfl
        · exact fun _ => rfl
        simp only [List.nil_append, List.cons_append, Nat.reduceAdd]
        refine wpInv_det (by kernel_rfl) (by kernel_rfl) ?_
        apply Exists.intro
        refine ⟨?_, ?_, ?_⟩
        · intro U W hC hH
          have hc1 := (bcell hC).1
          have hf1 := (bcell hC).2
          simp only [HypsU, predsOf, Region.binds, List.filterMap_cons, List.filterMap_nil, if_true, List.nil_append, List.cons_append, List.getD_cons_zero, List.getD_cons_succ] at hH
          simp only [fillPuts, Act.put, List.setIfInBounds_toArray, List.set_cons_zero, List.set_cons_succ, Nat.reduceAdd]
          simp only [hH]; go_wp2_with fail
          refine ⟨rfl, rfl, by (repeat' (first | (with_reducible exact Below.refl _ _) | (with_reducible assumption) | (with_reducible refine Below.alloc ?_ ?_ _) | (with_reducible refine below_grew ?_ ?_ _) | (with_reducible refine Below.setCell ?_ ?_ _) | (with_reducible refine Below.drew ?_) | (with_reducible refine below_drewN ?_ _) | omega | (simp; done) | (simp; omega))), ?_⟩
          conv => lhs; whnf
          try rfl
        · exact fun _ => rfl
        simp only [List.nil_append, List.cons_append, Nat.reduceAdd]
        refine wpInv_det (by kernel_rfl) (by kernel_rfl) ?_
        apply Exists.intro
        refine ⟨?_, ?_, ?_⟩
        · intro U W hC hH
          have hc1 := (bcell hC).1
          have hf1 := (bcell hC).2
          simp only [HypsU, predsOf, Region.binds, List.filterMap_cons, List.filterMap_nil, if_true, List.nil_append, List.cons_append, List.getD_cons_zero, List.getD_cons_succ] at hH
          simp only [fillPuts, Act.put, List.setIfInBounds_toArray, List.set_cons_zero, List.set_cons_succ, Nat.reduceAdd]
          simp only [hH]; go_wp2_with fail
          refine ⟨rfl, rfl, by (repeat' (first | (with_reducible exact Below.refl _ _) | (with_reducible assumption) | (with_reducible refine Below.alloc ?_ ?_ _) | (with_reducible refine below_grew ?_ ?_ _) | (with_reducible refine Below.setCell ?_ ?_ _) | (with_reducible refine Below.drew ?_) | (with_reducible refine below_drewN ?_ _) | omega | (simp; done) | (simp; omega))), ?_⟩
          conv => lhs; whnf
          try rfl
        · exact fun _ => rfl
        simp only [List.nil_append, List.cons_append, Nat.reduceAdd]
        refine wpInv_det (by kernel_rfl) (by kernel_rfl) ?_
        apply Exists.intro
        refine ⟨?_, ?_, ?_⟩
        · intro U W hC hH
          have hc1 := (bcell hC).1
          have hf1 := (bcell hC).2
          simp only [HypsU, predsOf, Region.binds, List.filterMap_cons, List.filterMap_nil, if_true, List.nil_append, List.cons_append, List.getD_cons_zero, List.getD_cons_succ] at hH
          simp only [fillPuts, Act.put, List.setIfInBounds_toArray, List.set_cons_zero, List.set_cons_succ, Nat.reduceAdd]
          simp only [hH]; go_wp2_with fail
          refine ⟨rfl, rfl, by (repeat' (first | (with_reducible exact Below.refl _ _) | (with_reducible assumption) | (with_reducible refine Below.alloc ?_ ?_ _) | (with_reducible refine below_grew ?_ ?_ _) | (with_reducible refine Below.setCell ?_ ?_ _) | (with_reducible refine Below.drew ?_) | (with_reducible refine below_drewN ?_ _) | omega | (simp; done) | (simp; omega))), ?_⟩
          conv => lhs; whnf
          try rfl
        · exact fun _ => rfl
        simp only [List.nil_append, List.cons_append, Nat.reduceAdd]
        refine wpInv_det (by kernel_rfl) (by kernel_rfl) ?_
        apply Exists.intro
        refine ⟨?_, ?_, ?_⟩
        · intro U W hC hH
          have hc1 := (bcell hC).1
          have hf1 := (bcell hC).2
          simp only [HypsU, predsOf, Region.binds, List.filterMap_cons, List.filterMap_nil, if_true, List.nil_append, List.cons_append, List.getD_cons_zero, List.getD_cons_succ] at hH
          simp only [fillPuts, Act.put, List.setIfInBounds_toArray, List.set_cons_zero, List.set_cons_succ, Nat.reduceAdd]
          simp only [hH]; go_wp2_with fail
          refine ⟨rfl, rfl, by (repeat' (first | (with_reducible exact Below.refl _ _) | (with_reducible assumption) | (with_reducible refine Below.alloc ?_ ?_ _) | (with_reducible refine below_grew ?_ ?_ _) | (with_reducible refine Below.setCell ?_ ?_ _) | (with_reducible refine Below.drew ?_) | (with_reducible refine below_drewN ?_ _) | omega | (simp; done) | (simp; omega))), ?_⟩
          conv => lhs; whnf
          try rfl
        · exact fun _ => rfl
        simp only [List.nil_append, List.cons_append, Nat.reduceAdd]
        refine wpInv_det (by kernel_rfl) (by kernel_rfl) ?_
        apply Exists.intro
        refine ⟨?_, ?_, ?_⟩
        · intro U W hC hH
          have hc1 := (bcell hC).1
          have hf1 := (bcell hC).2
          simp only [HypsU, predsOf, Region.binds, List.filterMap_cons, List.filterMap_nil, if_true, List.nil_append, List.cons_append, List.getD_cons_zero, List.getD_cons_succ] at hH
          simp only [fillPuts, Act.put, List.setIfInBounds_toArray, List.set_cons_zero, List.set_cons_succ, Nat.reduceAdd]
          simp only [hH]; go_wp2_with fail
          refine ⟨rfl, rfl, by (repeat' (first | (with_reducible exact Below.refl _ _) | (with_reducible assumption) | (with_reducible refine Below.alloc ?_ ?_ _) | (with_reducible refine below_grew ?_ ?_ _) | (with_reducible refine Below.setCell ?_ ?_ _) | (with_reducible refine Below.drew ?_) | (with_reducible refine below_drewN ?_ _) | omega | (simp; done) | (simp; omega))), ?_⟩
          conv => lhs; whnf
          try rfl
        · exact fun _ => rfl
        simp only [List.nil_append, List.cons_append, Nat.reduceAdd]
        simp only [List.nil_append, List.cons_append, Nat.reduceAdd, fillPuts, Act.put, List.setIfInBounds_toArray, List.set_cons_zero, List.set_cons_succ]
        rintro U W hC ⟨h0, h1, h2, h3, h4, h5, h6, h7, h8, h9, h10, h11, h12, h13, h14, h15, h16, h17, h18, h19, h20, -⟩ -
        simp only [h0, h1, h2, h3, h4, h5, h6, h7, h8, h9, h10, h11, h12, h13, h14, h15, h16, h17, h18, h19, h20]
        have HC := Lib.hid hC
        clear h0 h1 h2 h3 h4 h5 h6 h7 h8 h9 h10 h11 h12 h13 h14 h15 h16 h17 h18 h19 h20 hC
        go_wp2_with fail
        go_ret
        exact ⟨rfl, by rw [HBd.out]; exact (HY.out.keep HC.out).below⟩
theorem stateTells_any (st : Nat → Int) (s c ch : Int) (h32 : ∀ j, 10 ≤ j → j < 140 → -2147483648 ≤ st j ∧ st j ≤ 2147483647) (w : World) (hT : FadeW w) :
    Calls Tryd.prog 16 #[.agg (ag kS 142 st), .agg #[.int .i64 s, .int .i64 c], .int .i64 ch] w fun e w' => e = .returned (.bool true) ∧ Below w.heap.size w w' := by
  by_cases h : RightP s c
  · obtain ⟨h1, h2, h3, h4⟩ := h
    obtain ⟨k, rfl⟩ : ∃ k : Nat, c = k := ⟨c.toNat, by omega⟩
    exact tells_yes st s k ch (by omega) (by omega) h32 w hT
  · exact tells_not st s c ch h w hT
end Go.Proofs.YtcibajleknhklaaDoor
end

section
namespace Go
open Go.RowKit Go.ChangeShapes Go.WideShapes
/-- All arguments read again. -/
theorem trodAll_below {H : Type} {enc : TypeId × Value → H} {P : Program} (hl : laidOutB P = true) {W W' : World} (hb : Below W.heap.size W W') :
    ∀ (ts : List TypeId) (vs : List Value) (ds : List (DataW H)) (ps : List MemPlace), (ts.all fun t => P.readableRec t && decide (t < P.types.size)) = true →
      DataW.TrodAll enc P W 0 (fun _ => true) true ts vs ds ps → (∀ x ∈ ps, x.block < W.heap.size) → DataW.TrodAll enc P W' 0 (fun b => decide (b < W.heap.size)) true ts vs ds ps
  | [], vs, ds, ps, _, h, _ => by
    obtain ⟨rfl, rfl, rfl⟩ := trodAll_nil h
    exact trodAll_mk0
  | t :: ts, vs, ds, ps, hr, h, hlt => by
    simp only [List.all_cons, Bool.and_eq_true, decide_eq_true_eq] at hr
    obtain ⟨v, vs', d, ds', p, q, rfl, rfl, rfl, h1, h2⟩ := trodAll_cons h
    exact trodAll_cons_mk (Below.trod hl hr.1.1 hr.1.2 h1 hb (fun x hx => hlt x (List.mem_append_left _ hx))) (trodAll_below hl hb ts vs' ds' q hr.2 h2 (fun x hx => hlt x (List.mem_append_right _ hx)))
end Go
end

section
namespace Go.Proofs.YtcibajleknhklaaDoor
open Go.RowKit
theorem fades_of {W : World} {rest : List (String × DataW Unit)} (h : laidMet Tryd.prog (("spinet/conceal.fades", Rows.laid_spinet_conceal_fades) :: rest) W) : FadeW W := by
  have hT := Lib.tabIs_of_head (P := Tryd.prog) (g := 2) (t := 214) (e := 21) (n := 5) (k := .i32) (zs := fadL) (by kernel_rfl) (by kernel_rfl) Tryd.underlying214 Tryd.underlying21 (by kernel_rfl) (by kernel_rfl) h
  have hc := fun i hi => hT.cell (g := 2) (by kernel_rfl) i hi
  exact ⟨World.block_lt_of_cell? W ⟨2, 0, none⟩ (hc 0 (by decide)), hc⟩
end Go.Proofs.YtcibajleknhklaaDoor
end

section
namespace Go.Proofs.YtcibajleknhklaaDoor
open Go.ChangeShapes Go.WideShapes Go.ChangeAt Go.WideMaps Go.WideElems Go.RowKit
set_option maxRecDepth 100000 in
theorem stateTells_lifted (os : Os) (started : os.Started) (H : Type) (enc : TypeId × Value → H) :
    ReturnsInHanded {} Tryd.checked os 16 .any (fun w args => (Rows.stateTellsSpec.pre enc Tryd.prog Tryd.f16 [] false w args ∧ laidMetH Tryd.prog Rows.stateTellsRow.laid w) ∧ sizedMet enc Tryd.prog Tryd.f16 (OpenSpec.ofChange Rows.stateTellsSpec) false w args)
      (Rows.stateTellsSpec.post enc Tryd.prog Tryd.f16 false true false false) := by
  refine returnsInHanded_of_change_and (C := Tryd.checked) (X := fun w _ => laidMetH Tryd.prog Rows.stateTellsRow.laid w) (fun _ _ _ hh h => h.of_heap hh) (by kernel_rfl) started (by kernel_rfl) Tryd.func16
    (ChangeSpec.witness_shaped (enc := enc) (C := Tryd.checked) (os := os) (X := fun w _ => laidMetH Tryd.prog Rows.stateTellsRow.laid w) false (World.doorLaid Tryd.prog 400 os) #[.agg (ag kS 142 (fun _ => 0)), .agg #[.int .i64 0, .int .i64 0], .int .i64 0] 8 rfl (World.shaped_of_RefB (by kernel_rfl) (by kernel_rfl)) (by kernel_rfl) (by kernel_rfl) (by kernel_rfl)
      (laidMetH_of_parts3 (fuel := 8) (laidMet_of_run' 8 (by kernel_rfl) (by kernel_rfl)) (by kernel_rfl) (by kernel_rfl))) ?_
  intro W base args ds gs before hval0 hW _ _ hL _
  have hval : ∀ (j : Nat) t v, Tryd.f16.params[j]? = some t → args[j]? = some v → Value.okWide Tryd.prog W .any base t v := hval0
  have hW' := hW
  obtain ⟨p, q, hA0, hV, rfl, hfz, hnd⟩ := hW
  have hA : DataW.TrodAll enc Tryd.prog W 0 (fun _ => true) true Tryd.f16.params.toList args.toList ds p := hA0
  have hA2 := hA
  rw [Tryd.params16] at hA hval
  obtain ⟨v0, v1, v2, d0, d1, d2, p0, p1, p2, rfl, rfl, hp, h0, h1, h2⟩ := trodAll_three hA
  obtain ⟨rfl, rfl⟩ := trodVars_none hV
  obtain ⟨cs, hcv, hfit⟩ := open_flat 4 ((List.range 142).map fun i => Leaf.int (kS i)) (by kernel_rfl) (by kernel_rfl) (hval 0 97 v0 rfl rfl) h0
  obtain ⟨st, hcs, hst⟩ := ag_of_fit kS 142 cs hfit
  rw [hcs] at hcv
  subst hcv
  obtain ⟨ds1, rfl, hfit1⟩ := open_flat 3 [.int .i64, .int .i64] (by kernel_rfl) (by kernel_rfl) (hval 1 60 v1 rfl rfl) h1
  obtain ⟨a, cs1, rfl, wa, hfit1⟩ := fitAllW_int hfit1
  obtain ⟨b, cs2, rfl, wb, hfit1⟩ := fitAllW_int hfit1
  obtain rfl := fitAllW_nil hfit1
  obtain ⟨ch, rfl, rfl, hp2, wch⟩ := open_int Tryd.underlying3 (hval 2 3 v2 rfl rfl) h2
  rw [MakeChecks.laidMetH_plain _ _ _ (by kernel_rfl)] at hL
  have hT : FadeW W := fades_of hL
  simp only [List.append_nil] at hW'
  refine (stateTells_any st a b ch (fun j h1 h2 => by have := hst j (by omega); rw [show kS j = .i32 from by unfold kS; rw [if_neg (by omega), if_pos (by omega)]] at this; exact wf_i32 this) W hT).mono fun e W' ⟨he, hb⟩ => ?_
  subst he
  have e1 : Rows.stateTellsSpec.fn H ([d0, d1, .lit (.int .i64 ch)] ++ []) = { results := [.lit (.bool true)], args := [d0, d1, .lit (.int .i64 ch)] } := by simp [Rows.stateTellsSpec]
  refine ⟨_, rfl, _, _, _, [], p, [], hW', ?_, ?_, ?_, hb.frame _, fun h => by cases h⟩
  · rw [e1]; exact trodAll_mk1 (shut_bool Tryd.underlying4 _)
  · rw [e1]; exact trodAll_below (by kernel_rfl) hb _ _ _ _ (by kernel_rfl) hA2 (fun x hx => by simpa using hW'.lt x (by simpa using hx))
  · rw [e1]; rfl
theorem stateTells_holds : Rows.StateTellsSaid :=
  OpenClaim.holds_of_wide 16 Tryd.f16 rfl rfl rfl rfl rfl rfl rfl ⟨rfl, rfl, rfl, rfl, rfl⟩ rfl rfl rfl rfl rfl (by kernel_rfl) Tryd.func16 (by kernel_rfl)
    (of_decide_eq_true (by kernel_rfl)) (by unfold Func.isWrapper; rw [if_neg (of_decide_eq_false (by kernel_rfl))]; exact ⟨rfl, rfl⟩)
    (fun os started H enc _ => stateTells_lifted os started H enc)
theorem stateTells_card : Rows.StateTellsCardSaid :=
  Claim7.holds_tied_plain_at .later [] [.data, .data] true (true, "ae348317897b4f8711de699b2180ffb779772e4703cfa942f657876935132cc0") false
    stateTells_holds (fun _ h => by cases h) (by kernel_rfl) (fun _ h => by cases h) stateTells_row_tie rfl ⟨rfl, rfl⟩ (by kernel_rfl) rfl
    (fun f fn hf hfn => by
      obtain rfl : f = 16 := Option.some.inj ((show Tryd.prog.funcNamed "spinet/spinetlaw26.StateTells" = some 16 by kernel_rfl).symm.trans hf) |>.symm
      obtain rfl : fn = Tryd.f16 := (Option.some.inj (Tryd.func16.symm.trans hfn)).symm
      exact ⟨by kernel_rfl, fun j t ht => by
        rw [Tryd.params16] at ht
        have hm : t ∈ [97, 60, 3] := by simpa using Array.mem_of_getElem? ht
        have hall : ([97, 60, 3].all fun u => !Tryd.prog.wantsStandIn u) = true := by kernel_rfl
        exact (show Tryd.prog.wantsStandIn t = false by simpa using List.all_eq_true.1 hall t (by simpa using hm))⟩)
    (by kernel_rfl)
end Go.Proofs.YtcibajleknhklaaDoor
end

