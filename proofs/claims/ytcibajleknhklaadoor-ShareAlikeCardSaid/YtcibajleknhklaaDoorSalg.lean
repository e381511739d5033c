/-
  ShareAlike: a share and layer 14 never differ, asked again and again, up to 60 budgets. For every input.
  (One text out of these parts: ShareL, Law, LaidW, FlatS, ShareAlikeRow.)
-/
import Derived.Test.YtcibajleknhklaaDoorSalf
import Derived.ProofKit
import Derived.LaidMore
import Derived.OpenShut
import Derived.Stop.Joined
import Derived.Lib.LaidTab
import Derived.Test.YtcibajleknhklaaDoorRows
import Derived.DataReads
import Derived.Test.YtcibajleknhklaaDoorCards
import Derived.Test.YtcibajleknhklaaDoorTie
import Derived.SevenTiedAt
section
namespace Go
open Go.RowKit
theorem BkInv.trans {m : Nat} {a b c : World} (h : BkInv m a b) (k : BkInv m b c) : BkInv m a c :=
  ⟨k.os.trans h.os, k.tape.trans h.tape, k.output.trans h.output, Nat.le_trans h.size k.size, h.lt, k.map, fun i hi hne => (k.block i (Nat.lt_of_lt_of_le hi h.size) hne).trans (h.block i hi hne)⟩
theorem BkInv.refl2 {m : Nat} {a b : World} (h : BkInv m a b) : BkInv m b b :=
  ⟨rfl, rfl, rfl, Nat.le_refl _, Nat.lt_of_lt_of_le h.lt h.size, h.map, fun _ _ _ => rfl⟩
theorem bkcell {m : Nat} {W w1 : World} (hb : BkInv m W w1) : (∀ b o, b < W.heap.size → m ≠ b → w1.cell? ⟨b, o, none⟩ = W.cell? ⟨b, o, none⟩) ∧ (∀ b o, b < W.heap.size → m ≠ b → w1.frozen? ⟨b, o, none⟩ = W.frozen? ⟨b, o, none⟩) :=
  ⟨fun b o h hne => by unfold World.cell?; rw [hb.block b h hne], fun b o h hne => by unfold World.frozen?; rw [hb.block b h hne]⟩
end Go
namespace Go.Proofs.YtcibajleknhklaaDoor
open Go.RowKit Go.BigFrame Go.Vec Go.Cost
set_option linter.unusedSimpArgs false
set_option linter.unusedVariables false
abbrev TAsk := 54
theorem info4 : (Tryd.prog.info? TAsk).map (·.size) = some 4 := by kernel_rfl
theorem a4_new (W : World) (F : Nat → Int) : Below W.heap.size W ((W.alloc (.cells #[.int .i64 0, .int .i64 0, .int .i64 0, .int .i64 0] TAsk (0, 0))).setCells W.heap.size 0 (ag i64s 4 F).toList) ∧ Bx W.heap.size TAsk i64s 4 F ((W.alloc (.cells #[.int .i64 0, .int .i64 0, .int .i64 0, .int .i64 0] TAsk (0, 0))).setCells W.heap.size 0 (ag i64s 4 F).toList) :=
  ⟨(only_setCells _ _ _ _).below (by (repeat' (first | (with_reducible exact Below.refl _ _) | (with_reducible assumption) | (with_reducible refine Below.alloc ?_ ?_ _) | (with_reducible refine below_grew ?_ ?_ _) | (with_reducible refine Below.setCell ?_ ?_ _) | (with_reducible refine Below.drew ?_) | (with_reducible refine below_drewN ?_ _) | omega | (simp; done) | (simp; omega)))) (Nat.le_refl _), cells_all (alloc_at W _) (N := 4) rfl (ag_size _ _ _)⟩
theorem SD.below' {w0 W W' : World} {b m hb sh : Nat} (h : SD w0 b m hb sh W) (hb' : Below W.heap.size W W') : SD w0 b m hb sh W' := by
  obtain ⟨x0, hx⟩ := bkInv_as (h.book.refl.below hb')
  rw [hx]; exact h.bkd x0
theorem SD.inv {w0 W W' : World} {b m hb sh : Nat} (h : SD w0 b m hb sh W) (hb' : BkInv m W W') : SD w0 b m hb sh W' := by
  obtain ⟨x0, hx⟩ := bkInv_as hb'
  rw [hx]; exact h.bkd x0
set_option maxHeartbeats 4000000 in
set_option maxRecDepth 100000 in
theorem alike_any (len cap : Nat) (A : Option Addr) (Q : Nat → Nat → Int) (w : World) (hW : WidthW w)
    (hA : 0 < len → ∃ bk off, A = some ⟨bk, off, none⟩ ∧ bk < w.heap.size ∧ ∀ i, i < len → ∀ j, j < 4 → w.cell? ⟨bk, off + i * 4 + j, none⟩ = some (.int .i64 (Q i j))) :
    Calls Tryd.prog 12 #[.slice A len cap] w fun e w' => e = .returned (.bool true) ∧ Below w.heap.size w w' := by
  have haw := Lib.hid (fun w hW => awake15 w hW)
  have HW := Lib.hid hW
  have HA := Lib.hid hA
  have hfr := Lib.hid (fun w => fresh_any w)
  have hbn := Lib.hid (fun w => bookNew w)
  clear hW hA
  go_enter Tryd.func12, Tryd.ntmps12
  go_wp2_with fail
  refine (haw.out _ HW.out).mono ?_
  rintro e w1 ⟨rfl, hb1⟩
  have HB1 := Lib.hid hb1
  clear hb1 haw
  by_cases h60 : 60 < len
  · have h60' : (60 : Int) < (len : Int) := by omega
    go_wp2_with fail
    go_ret
    exact ⟨rfl, HB1.out⟩
  have h60' : ¬ ((60 : Int) < (len : Int)) := by omega
  have hl60 : len ≤ 60 := by omega
  clear h60
  go_wp2_with fail
  refine (hfr.out _).mono ?_
  rintro e w2 ⟨hb, sh, rfl, hS, hb2⟩
  have HS := Lib.hid hS
  have HB2 := Lib.hid (HB1.out.trans (hb2.mono HB1.out.size))
  clear hS hb2 hfr
  go_wp2_with fail
  refine (hbn.out _).mono ?_
  rintro e w3 ⟨b, m, rfl, hbs, hms, hB, hb3⟩
  have hsd : SD w b m hb sh w3 := ⟨hB, Nat.le_trans HB2.out.size hms, HB2.out.trans (hb3.mono HB2.out.size), HS.out.keep hb3, by have := (block_facts HS.out.sha).2.2; omega, by have := sheet_lt HS.out.sheet; omega⟩
  have HSD := Lib.hid hsd
  clear hB hb3 hsd HS HB1 HB2 hbn hbs hms
  go_wp2_with fail
  go_loopw [6, 7, 17] (fun v6 v7 cnt wr => ∃ k : Nat, k ≤ len ∧ cnt = .int .i64 k ∧ SD w b m hb sh wr) (fun _ _ cnt _ => len - (intOf cnt).toNat)
  case atStart => exact ⟨0, by omega, rfl, HSD.out⟩
  case round =>
    clear HSD
    obtain ⟨k, hk, rfl, hsd⟩ := hrel
    have HSD := Lib.hid hsd
    have hk0 : (0 : Int) ≤ k := by omega
    clear hsd
    by_cases hlt : k < len
    · have hlt' : (k : Int) < len := by omega
      obtain ⟨bk, off, rfl, hbk, hX⟩ := HA.out (by omega)
      have hrX : wr.rangeAt bk (off + k * 4) (ag i64s 4 (Q k)).toList := by
        intro j v hj
        rw [ag_toList] at hj
        have hj' : j < 4 := by
          have := (List.getElem?_eq_some_iff.1 hj).1
          simpa using this
        simp only [List.getElem?_map, List.getElem?_range hj', Option.map_some, Option.some.injEq] at hj
        subst hj
        exact (HSD.out.below.cell (p := ⟨bk, off + k * 4 + j, none⟩) hbk).trans (hX k hlt j hj')
      have HRX := Lib.hid hrX
      clear hrX hX hlt
      go_upto_region 9 with (first | ((with_reducible refine gate_load TAsk _ rfl ?_); refine load_mid_g rfl TAsk _ rfl bk (off + k * 4) rfl _ _ HRX.out Tryd.underlying54 rfl ?hi ?_; (case hi => rw [Array.length_toList, ag_size]; exact info4)) | (refine wpList_store_mid rfl TAsk _ _ rfl wr.heap.size 0 (ag i64s 4 (Q k)) rfl rfl ?hth ?hin3 ?hon ?_; (case hth => exact there_row (alloc_at _ _) _ (by rw [ag_size]; exact Nat.le_refl _)); (case hin3 => rw [ag_size]; exact info4); (case hon => exact ag_one i64s 4 _)))
      obtain ⟨q1, q2⟩ := a4_new wr (Q k)
      refine cut_world (fun W => SD w b m hb sh W ∧ Bx wr.heap.size TAsk i64s 4 (Q k) W ∧ m ≠ wr.heap.size) ⟨HSD.out.below' q1, q2, by have := HSD.out.book.lt_m; omega⟩ ?_
      clear q1 q2 HSD HRX
      generalize wr.heap.size = p at *
      rintro V ⟨hsd, hp, hmp⟩
      have HSD := Lib.hid hsd
      have HP := Lib.hid hp
      have c0 := ag_cell hp 0 (by omega)
      have c1 := ag_cell hp 1 (by omega)
      clear hsd hp
      generalize Q k 0 = s at *
      generalize Q k 1 = c at *
      go_upto_region 10 with fail
      have hpV := (block_facts HP.out).2.2
      refine cut_world (fun W => SD w b m hb sh W ∧ Bx p TAsk i64s 4 (Q k) W ∧ W.cell? ⟨V.heap.size, 0, none⟩ = some (.int .i64 s) ∧ W.cell? ⟨V.heap.size, 1, none⟩ = some (.int .i64 c) ∧ V.heap.size < W.heap.size ∧ m ≠ V.heap.size) ⟨HSD.out.below' (by (repeat' (first | (with_reducible exact Below.refl _ _) | (with_reducible assumption) | (with_reducible refine Below.alloc ?_ ?_ _) | (with_reducible refine below_grew ?_ ?_ _) | (with_reducible refine Below.setCell ?_ ?_ _) | (with_reducible refine Below.drew ?_) | (with_reducible refine below_drewN ?_ _) | omega | (simp; done) | (simp; omega)))), HP.out.keep (by (repeat' (first | (with_reducible exact Below.refl _ _) | (with_reducible assumption) | (with_reducible refine Below.alloc ?_ ?_ _) | (with_reducible refine below_grew ?_ ?_ _) | (with_reducible refine Below.setCell ?_ ?_ _) | (with_reducible refine Below.drew ?_) | (with_reducible refine below_drewN ?_ _) | omega | (simp; done) | (simp; omega)))), by simp [go_sem], by simp [go_sem], by simp, by have := HSD.out.book.lt_m; omega⟩ ?_
      clear HSD HP c0 c1
      generalize V.heap.size = q at *
      rintro U ⟨hsd, hp, hq0, hq1, hqs, hmq⟩
      have hps := (block_facts hp).2.2
      have hp2 := ag_cell hp 2 (by omega)
      have hp3 := ag_cell hp 3 (by omega)
      generalize Q k 2 = t at *
      generalize Q k 3 = bud at *
      have he := fun (k0 k1 k2 k3 k4 l0 l1 l2 l3 l4 : Int) w => eq_flat (P := Tryd.prog) 55 3 [.int .i64, .int .i64, .int .i64, .int .i64, .int .i64] (by kernel_rfl) (by decide) (by kernel_rfl) [.int .i64 k0, .int .i64 k1, .int .i64 k2, .int .i64 k3, .int .i64 k4] [.int .i64 l0, .int .i64 l1, .int .i64 l2, .int .i64 l3, .int .i64 l4] rfl rfl w
      obtain ⟨l0, l1, l2, l3, l4, hl⟩ := allocF_five s c t bud
      have a1 := Lib.hid (show aggOf (allocF s c t bud) = .agg #[.int .i64 l0, .int .i64 l1, .int .i64 l2, .int .i64 l3, .int .i64 l4] by rw [hl]; rfl)
      have HSD := Lib.hid hsd
      have hSH := Lib.hid (fun (W : World) (h : BkInv m U W) => (HSD.out.inv h).share)
      have hBK := Lib.hid (fun (W : World) (h : BkInv m U W) => (HSD.out.inv h).book)
      have hWW := Lib.hid (fun (W : World) (h : BkInv m U W) => HW.out.below' (HSD.out.inv h).below)
      have hrf := hsd.book.refl
      clear hsd hp hl
      refine wp_region_inv [] (fun W => BkInv m U W) (fun W W' => BkInv m W W') 14 (by kernel_rfl) (by kernel_rfl) (by kernel_rfl) (hrf.drew) (fun W W' h h' => h.trans h') (fun _ _ h => h.size) ?_
      simp only [List.take_succ_cons, List.take_zero, List.drop_succ_cons, List.drop_zero]
      refine wpInv_det (by kernel_rfl) (by kernel_rfl) ?_
      apply Exists.intro
      refine ⟨?_, ?_, ?_⟩
      · intro U W hC hH
        have hc1 := (bkcell hC).1
        have hf1 := (bkcell hC).2
        have hR := hC.refl2
        simp only [HypsU, predsOf, Region.binds, List.filterMap_cons, List.filterMap_nil, if_true, List.nil_append, List.cons_append, List.getD_cons_zero, List.getD_cons_succ] at hH
        simp only [fillPuts, Act.put, List.setIfInBounds_toArray, List.set_cons_zero, List.set_cons_succ, Nat.reduceAdd]
        go_wp2_with fail
        refine ⟨rfl, rfl, by (repeat' (first | (with_reducible assumption) | (with_reducible exact BookOK.refl ‹_›) | (with_reducible refine BkInv.alloc ?_ _) | (with_reducible refine BkInv.grew ?_ _) | (with_reducible refine BkInv.bkd ?_ _) | (with_reducible refine BkInv.setCell ?_ ?_ _) | (with_reducible refine BkInv.drew ?_) | (with_reducible refine BkInv.drewN ?_ _) | omega | (simp; done) | (simp; omega))), ?_⟩
        conv => lhs; whnf
        try rfl
      · exact fun _ => rfl
      simp only [List.nil_append, List.cons_append, Nat.reduceAdd]
      refine wpInv_det (by kernel_rfl) (by kernel_rfl) ?_
      apply Exists.intro
      refine ⟨?_, ?_, ?_⟩
      · intro U W hC hH
        have hc1 := (bkcell hC).1
        have hf1 := (bkcell hC).2
        have hR := hC.refl2
        simp only [HypsU, predsOf, Region.binds, List.filterMap_cons, List.filterMap_nil, if_true, List.nil_append, List.cons_append, List.getD_cons_zero, List.getD_cons_succ] at hH
        simp only [fillPuts, Act.put, List.setIfInBounds_toArray, List.set_cons_zero, List.set_cons_succ, Nat.reduceAdd]
        go_wp2_with fail
        refine ⟨rfl, rfl, by (repeat' (first | (with_reducible assumption) | (with_reducible exact BookOK.refl ‹_›) | (with_reducible refine BkInv.alloc ?_ _) | (with_reducible refine BkInv.grew ?_ _) | (with_reducible refine BkInv.bkd ?_ _) | (with_reducible refine BkInv.setCell ?_ ?_ _) | (with_reducible refine BkInv.drew ?_) | (with_reducible refine BkInv.drewN ?_ _) | omega | (simp; done) | (simp; omega))), ?_⟩
        conv => lhs; whnf
        try rfl
      · exact fun _ => rfl
      simp only [List.nil_append, List.cons_append, Nat.reduceAdd]
      refine wpInv_det (by kernel_rfl) (by kernel_rfl) ?_
      apply Exists.intro
      refine ⟨?_, ?_, ?_⟩
      · intro U W hC hH
        have hc1 := (bkcell hC).1
        have hf1 := (bkcell hC).2
        have hR := hC.refl2
        simp only [HypsU, predsOf, Region.binds, List.filterMap_cons, List.filterMap_nil, if_true, List.nil_append, List.cons_append, List.getD_cons_zero, List.getD_cons_succ] at hH
        simp only [fillPuts, Act.put, List.setIfInBounds_toArray, List.set_cons_zero, List.set_cons_succ, Nat.reduceAdd]
        go_wp2_with fail
        refine ⟨rfl, rfl, by (repeat' (first | (with_reducible assumption) | (with_reducible exact BookOK.refl ‹_›) | (with_reducible refine BkInv.alloc ?_ _) | (with_reducible refine BkInv.grew ?_ _) | (with_reducible refine BkInv.bkd ?_ _) | (with_reducible refine BkInv.setCell ?_ ?_ _) | (with_reducible refine BkInv.drew ?_) | (with_reducible refine BkInv.drewN ?_ _) | omega | (simp; done) | (simp; omega))), ?_⟩
        conv => lhs; whnf
        try rfl
      · exact fun _ => rfl
      simp only [List.nil_append, List.cons_append, Nat.reduceAdd]
      refine wpInv_det (by kernel_rfl) (by kernel_rfl) ?_
      apply Exists.intro
      refine ⟨?_, ?_, ?_⟩
      · intro U W hC hH
        have hc1 := (bkcell hC).1
        have hf1 := (bkcell hC).2
        have hR := hC.refl2
        simp only [HypsU, predsOf, Region.binds, List.filterMap_cons, List.filterMap_nil, if_true, List.nil_append, List.cons_append, List.getD_cons_zero, List.getD_cons_succ] at hH
        simp only [fillPuts, Act.put, List.setIfInBounds_toArray, List.set_cons_zero, List.set_cons_succ, Nat.reduceAdd]
        go_wp2_with fail
        refine ⟨rfl, rfl, by (repeat' (first | (with_reducible assumption) | (with_reducible exact BookOK.refl ‹_›) | (with_reducible refine BkInv.alloc ?_ _) | (with_reducible refine BkInv.grew ?_ _) | (with_reducible refine BkInv.bkd ?_ _) | (with_reducible refine BkInv.setCell ?_ ?_ _) | (with_reducible refine BkInv.drew ?_) | (with_reducible refine BkInv.drewN ?_ _) | omega | (simp; done) | (simp; omega))), ?_⟩
        conv => lhs; whnf
        try rfl
      · exact fun _ => rfl
      simp only [List.nil_append, List.cons_append, Nat.reduceAdd]
      refine wpInv_det (by kernel_rfl) (by kernel_rfl) ?_
      apply Exists.intro
      refine ⟨?_, ?_, ?_⟩
      · intro U W hC hH
        have hc1 := (bkcell hC).1
        have hf1 := (bkcell hC).2
        have hR := hC.refl2
        simp only [HypsU, predsOf, Region.binds, List.filterMap_cons, List.filterMap_nil, if_true, List.nil_append, List.cons_append, List.getD_cons_zero, List.getD_cons_succ] at hH
        simp only [fillPuts, Act.put, List.setIfInBounds_toArray, List.set_cons_zero, List.set_cons_succ, Nat.reduceAdd]
        go_wp2_with fail
        refine ⟨rfl, rfl, by (repeat' (first | (with_reducible assumption) | (with_reducible exact BookOK.refl ‹_›) | (with_reducible refine BkInv.alloc ?_ _) | (with_reducible refine BkInv.grew ?_ _) | (with_reducible refine BkInv.bkd ?_ _) | (with_reducible refine BkInv.setCell ?_ ?_ _) | (with_reducible refine BkInv.drew ?_) | (with_reducible refine BkInv.drewN ?_ _) | omega | (simp; done) | (simp; omega))), ?_⟩
        conv => lhs; whnf
        try rfl
      · exact fun _ => rfl
      simp only [List.nil_append, List.cons_append, Nat.reduceAdd]
      refine wpInv_det (by kernel_rfl) (by kernel_rfl) ?_
      apply Exists.intro
      refine ⟨?_, ?_, ?_⟩
      · intro U W hC hH
        have hc1 := (bkcell hC).1
        have hf1 := (bkcell hC).2
        have hR := hC.refl2
        simp only [HypsU, predsOf, Region.binds, List.filterMap_cons, List.filterMap_nil, if_true, List.nil_append, List.cons_append, List.getD_cons_zero, List.getD_cons_succ] at hH
        simp only [fillPuts, Act.put, List.setIfInBounds_toArray, List.set_cons_zero, List.set_cons_succ, Nat.reduceAdd]
        go_wp2_with fail
        refine ⟨rfl, rfl, by (repeat' (first | (with_reducible assumption) | (with_reducible exact BookOK.refl ‹_›) | (with_reducible refine BkInv.alloc ?_ _) | (with_reducible refine BkInv.grew ?_ _) | (with_reducible refine BkInv.bkd ?_ _) | (with_reducible refine BkInv.setCell ?_ ?_ _) | (with_reducible refine BkInv.drew ?_) | (with_reducible refine BkInv.drewN ?_ _) | omega | (simp; done) | (simp; omega))), ?_⟩
        conv => lhs; whnf
        try rfl
      · exact fun _ => rfl
      simp only [List.nil_append, List.cons_append, Nat.reduceAdd]
      refine wpInv_det (by kernel_rfl) (by kernel_rfl) ?_
      apply Exists.intro
      refine ⟨?_, ?_, ?_⟩
      · intro U W hC hH
        have hc1 := (bkcell hC).1
        have hf1 := (bkcell hC).2
        have hR := hC.refl2
        simp only [HypsU, predsOf, Region.binds, List.filterMap_cons, List.filterMap_nil, if_true, List.nil_append, List.cons_append, List.getD_cons_zero, List.getD_cons_succ] at hH
        simp only [fillPuts, Act.put, List.setIfInBounds_toArray, List.set_cons_zero, List.set_cons_succ, Nat.reduceAdd]
        (simp only [hH]; go_wp2_with fail; refine (shareAlloc hb sh _ _ _ _ _ (hSH.out W hC) (hWW.out W hC)).mono ?_; rintro e w' ⟨rfl, hb1⟩; obtain ⟨x1, rfl⟩ := below_as_grew hb1; rw [a1.out]; go_wp2_with fail)
        refine ⟨rfl, rfl, by (repeat' (first | (with_reducible assumption) | (with_reducible exact BookOK.refl ‹_›) | (with_reducible refine BkInv.alloc ?_ _) | (with_reducible refine BkInv.grew ?_ _) | (with_reducible refine BkInv.bkd ?_ _) | (with_reducible refine BkInv.setCell ?_ ?_ _) | (with_reducible refine BkInv.drew ?_) | (with_reducible refine BkInv.drewN ?_ _) | omega | (simp; done) | (simp; omega))), ?_⟩
        conv => lhs; whnf
        try rfl
      · exact fun _ => rfl
      simp only [List.nil_append, List.cons_append, Nat.reduceAdd]
      refine wpInv_det (by kernel_rfl) (by kernel_rfl) ?_
      apply Exists.intro
      refine ⟨?_, ?_, ?_⟩
      · intro U W hC hH
        have hc1 := (bkcell hC).1
        have hf1 := (bkcell hC).2
        have hR := hC.refl2
        simp only [HypsU, predsOf, Region.binds, List.filterMap_cons, List.filterMap_nil, if_true, List.nil_append, List.cons_append, List.getD_cons_zero, List.getD_cons_succ] at hH
        simp only [fillPuts, Act.put, List.setIfInBounds_toArray, List.set_cons_zero, List.set_cons_succ, Nat.reduceAdd]
        go_wp2_with fail
        refine ⟨rfl, rfl, by (repeat' (first | (with_reducible assumption) | (with_reducible exact BookOK.refl ‹_›) | (with_reducible refine BkInv.alloc ?_ _) | (with_reducible refine BkInv.grew ?_ _) | (with_reducible refine BkInv.bkd ?_ _) | (with_reducible refine BkInv.setCell ?_ ?_ _) | (with_reducible refine BkInv.drew ?_) | (with_reducible refine BkInv.drewN ?_ _) | omega | (simp; done) | (simp; omega))), ?_⟩
        conv => lhs; whnf
        try rfl
      · exact fun _ => rfl
      simp only [List.nil_append, List.cons_append, Nat.reduceAdd]
      refine wpInv_det (by kernel_rfl) (by kernel_rfl) ?_
      apply Exists.intro
      refine ⟨?_, ?_, ?_⟩
      · intro U W hC hH
        have hc1 := (bkcell hC).1
        have hf1 := (bkcell hC).2
        have hR := hC.refl2
        simp only [HypsU, predsOf, Region.binds, List.filterMap_cons, List.filterMap_nil, if_true, List.nil_append, List.cons_append, List.getD_cons_zero, List.getD_cons_succ] at hH
        simp only [fillPuts, Act.put, List.setIfInBounds_toArray, List.set_cons_zero, List.set_cons_succ, Nat.reduceAdd]
        go_wp2_with fail
        refine ⟨rfl, rfl, by (repeat' (first | (with_reducible assumption) | (with_reducible exact BookOK.refl ‹_›) | (with_reducible refine BkInv.alloc ?_ _) | (with_reducible refine BkInv.grew ?_ _) | (with_reducible refine BkInv.bkd ?_ _) | (with_reducible refine BkInv.setCell ?_ ?_ _) | (with_reducible refine BkInv.drew ?_) | (with_reducible refine BkInv.drewN ?_ _) | omega | (simp; done) | (simp; omega))), ?_⟩
        conv => lhs; whnf
        try rfl
      · exact fun _ => rfl
      simp only [List.nil_append, List.cons_append, Nat.reduceAdd]
      refine wpInv_det (by kernel_rfl) (by kernel_rfl) ?_
      apply Exists.intro
      refine ⟨?_, ?_, ?_⟩
      · intro U W hC hH
        have hc1 := (bkcell hC).1
        have hf1 := (bkcell hC).2
        have hR := hC.refl2
        simp only [HypsU, predsOf, Region.binds, List.filterMap_cons, List.filterMap_nil, if_true, List.nil_append, List.cons_append, List.getD_cons_zero, List.getD_cons_succ] at hH
        simp only [fillPuts, Act.put, List.setIfInBounds_toArray, List.set_cons_zero, List.set_cons_succ, Nat.reduceAdd]
        go_wp2_with fail
        refine ⟨rfl, rfl, by (repeat' (first | (with_reducible assumption) | (with_reducible exact BookOK.refl ‹_›) | (with_reducible refine BkInv.alloc ?_ _) | (with_reducible refine BkInv.grew ?_ _) | (with_reducible refine BkInv.bkd ?_ _) | (with_reducible refine BkInv.setCell ?_ ?_ _) | (with_reducible refine BkInv.drew ?_) | (with_reducible refine BkInv.drewN ?_ _) | omega | (simp; done) | (simp; omega))), ?_⟩
        conv => lhs; whnf
        try rfl
      · exact fun _ => rfl
      simp only [List.nil_append, List.cons_append, Nat.reduceAdd]
      refine wpInv_det (by kernel_rfl) (by kernel_rfl) ?_
      apply Exists.intro
      refine ⟨?_, ?_, ?_⟩
      · intro U W hC hH
        have hc1 := (bkcell hC).1
        have hf1 := (bkcell hC).2
        have hR := hC.refl2
        simp only [HypsU, predsOf, Region.binds, List.filterMap_cons, List.filterMap_nil, if_true, List.nil_append, List.cons_append, List.getD_cons_zero, List.getD_cons_succ] at hH
        simp only [fillPuts, Act.put, List.setIfInBounds_toArray, List.set_cons_zero, List.set_cons_succ, Nat.reduceAdd]
        go_wp2_with fail
        refine ⟨rfl, rfl, by (repeat' (first | (with_reducible assumption) | (with_reducible exact BookOK.refl ‹_›) | (with_reducible refine BkInv.alloc ?_ _) | (with_reducible refine BkInv.grew ?_ _) | (with_reducible refine BkInv.bkd ?_ _) | (with_reducible refine BkInv.setCell ?_ ?_ _) | (with_reducible refine BkInv.drew ?_) | (with_reducible refine BkInv.drewN ?_ _) | omega | (simp; done) | (simp; omega))), ?_⟩
        conv => lhs; whnf
        try rfl
      · exact fun _ => rfl
      simp only [List.nil_append, List.cons_append, Nat.reduceAdd]
      refine wpInv_det (by kernel_rfl) (by kernel_rfl) ?_
      apply Exists.intro
      refine ⟨?_, ?_, ?_⟩
      · intro U W hC hH
        have hc1 := (bkcell hC).1
        have hf1 := (bkcell hC).2
        have hR := hC.refl2
        simp only [HypsU, predsOf, Region.binds, List.filterMap_cons, List.filterMap_nil, if_true, List.nil_append, List.cons_append, List.getD_cons_zero, List.getD_cons_succ] at hH
        simp only [fillPuts, Act.put, List.setIfInBounds_toArray, List.set_cons_zero, List.set_cons_succ, Nat.reduceAdd]
        go_wp2_with fail
        refine ⟨rfl, rfl, by (repeat' (first | (with_reducible assumption) | (with_reducible exact BookOK.refl ‹_›) | (with_reducible refine BkInv.alloc ?_ _) | (with_reducible refine BkInv.grew ?_ _) | (with_reducible refine BkInv.bkd ?_ _) | (with_reducible refine BkInv.setCell ?_ ?_ _) | (with_reducible refine BkInv.drew ?_) | (with_reducible refine BkInv.drewN ?_ _) | omega | (simp; done) | (simp; omega))), ?_⟩
        conv => lhs; whnf
        try rfl
      · exact fun _ => rfl
      simp only [List.nil_append, List.cons_append, Nat.reduceAdd]
      refine wpInv_det (by kernel_rfl) (by kernel_rfl) ?_
      apply Exists.intro
      refine ⟨?_, ?_, ?_⟩
      · intro U W hC hH
        have hc1 := (bkcell hC).1
        have hf1 := (bkcell hC).2
        have hR := hC.refl2
        simp only [HypsU, predsOf, Region.binds, List.filterMap_cons, List.filterMap_nil, if_true, List.nil_append, List.cons_append, List.getD_cons_zero, List.getD_cons_succ] at hH
        simp only [fillPuts, Act.put, List.setIfInBounds_toArray, List.set_cons_zero, List.set_cons_succ, Nat.reduceAdd]
        go_wp2_with fail
        refine ⟨rfl, rfl, by (repeat' (first | (with_reducible assumption) | (with_reducible exact BookOK.refl ‹_›) | (with_reducible refine BkInv.alloc ?_ _) | (with_reducible refine BkInv.grew ?_ _) | (with_reducible refine BkInv.bkd ?_ _) | (with_reducible refine BkInv.setCell ?_ ?_ _) | (with_reducible refine BkInv.drew ?_) | (with_reducible refine BkInv.drewN ?_ _) | omega | (simp; done) | (simp; omega))), ?_⟩
        conv => lhs; whnf
        try rfl
      · exact fun _ => rfl
      simp only [List.nil_append, List.cons_append, Nat.reduceAdd]
      refine wpInv_det (by kernel_rfl) (by kernel_rfl) ?_
      apply Exists.intro
      refine ⟨?_, ?_, ?_⟩
      · intro U W hC hH
        have hc1 := (bkcell hC).1
        have hf1 := (bkcell hC).2
        have hR := hC.refl2
        simp only [HypsU, predsOf, Region.binds, List.filterMap_cons, List.filterMap_nil, if_true, List.nil_append, List.cons_append, List.getD_cons_zero, List.getD_cons_succ] at hH
        simp only [fillPuts, Act.put, List.setIfInBounds_toArray, List.set_cons_zero, List.set_cons_succ, Nat.reduceAdd]
        (simp only [hH]; go_wp2_with fail; refine (alloc_any _ _ _ _ b m _ (hBK.out W hC) (hWW.out W hC)).mono ?_; rintro e w' ⟨rfl, y, rfl⟩; rw [a1.out]; go_wp2_with fail)
        refine ⟨rfl, rfl, by (repeat' (first | (with_reducible assumption) | (with_reducible exact BookOK.refl ‹_›) | (with_reducible refine BkInv.alloc ?_ _) | (with_reducible refine BkInv.grew ?_ _) | (with_reducible refine BkInv.bkd ?_ _) | (with_reducible refine BkInv.setCell ?_ ?_ _) | (with_reducible refine BkInv.drew ?_) | (with_reducible refine BkInv.drewN ?_ _) | omega | (simp; done) | (simp; omega))), ?_⟩
        conv => lhs; whnf
        try rfl
      · exact fun _ => rfl
      simp only [List.nil_append, List.cons_append, Nat.reduceAdd]
      simp only [List.nil_append, List.cons_append, Nat.reduceAdd, fillPuts, Act.put, List.setIfInBounds_toArray, List.set_cons_zero, List.set_cons_succ]
      rintro X Z hC ⟨h0, h1, h2, h3, h4, h5, h6, h7, h8, h9, h10, h11, h12, h13, -⟩ -
      simp only [h0, h1, h2, h3, h4, h5, h6, h7, h8, h9, h10, h11, h12, h13]
      have HS2 := Lib.hid (HSD.out.inv hC)
      clear h0 h1 h2 h3 h4 h5 h6 h7 h8 h9 h10 h11 h12 h13 hC hSH hBK hWW hrf HSD hq0 hq1 hp2 hp3
      go_wp2_with fail
      go_roundw
      case rel => exact ⟨k + 1, by omega, rfl, HS2.out⟩
      case measure => simp [intOf]; omega
    · have hlt' : ¬ (k : Int) < len := by omega
      obtain rfl : k = len := by omega
      clear hlt
      go_wp2_with fail
      go_ret
      exact ⟨rfl, HSD.out.below⟩
end Go.Proofs.YtcibajleknhklaaDoor
end

section
namespace Go
open Go.RowKit Go.ChangeShapes Go.WideShapes
/-- All arguments read again. -/
theorem trodAll_below {H : Type} {enc : TypeId × Value → H} {P : Program} (hl : laidOutB P = true) {W W' : World} (hb : Below W.heap.size W W') :
    ∀ (ts : List TypeId) (vs : List Value) (ds : List (DataW H)) (ps : List MemPlace), (ts.all fun t => P.readableRec t && decide (t < P.types.size)) = true →
      DataW.TrodAll enc P W 0 (fun _ => true) true ts vs ds ps → (∀ x ∈ ps, x.block < W.heap.size) → DataW.TrodAll enc P W' 0 (fun b => decide (b < W.heap.size)) true ts vs ds ps
  | [], vs, ds, ps, _, h, _ => by
    obtain ⟨rfl, rfl, rfl⟩ := trodAll_nil h
    exact trodAll_mk0
  | t :: ts, vs, ds, ps, hr, h, hlt => by
    simp only [List.all_cons, Bool.and_eq_true, decide_eq_true_eq] at hr
    obtain ⟨v, vs', d, ds', p, q, rfl, rfl, rfl, h1, h2⟩ := trodAll_cons h
    exact trodAll_cons_mk (Below.trod hl hr.1.1 hr.1.2 h1 hb (fun x hx => hlt x (List.mem_append_left _ hx))) (trodAll_below hl hb ts vs' ds' q hr.2 h2 (fun x hx => hlt x (List.mem_append_right _ hx)))
end Go
end

section
namespace Go.Proofs.YtcibajleknhklaaDoor
open Go.RowKit
theorem widths_of {W : World} {rest : List (String × DataW Unit)} (h : laidMet Tryd.prog (("spinet/mode.widths", Rows.laid_spinet_mode_widths) :: rest) W) : WidthW W := by
  have hT := Lib.tabIs_of_head (P := Tryd.prog) (g := 1) (t := 55) (e := 3) (n := 5) (k := .i64) (zs := widL) (by kernel_rfl) (by kernel_rfl) Tryd.underlying55 Tryd.underlying3 (by kernel_rfl) (by kernel_rfl) h
  have hc := fun i hi => hT.cell (g := 1) (by kernel_rfl) i hi
  exact ⟨World.block_lt_of_cell? W ⟨1, 0, none⟩ (hc 0 (by decide)), hc⟩
end Go.Proofs.YtcibajleknhklaaDoor
end

section
namespace Go
open Go.RowKit
set_option linter.unusedSimpArgs false
section
variable {H : Type} {enc : TypeId × Value → H} {P : Program} {w : World} {base : Nat} {spare : Nat → Bool} {held : Bool}
theorem addr_add (b off x : Nat) : (⟨b, off, none⟩ : Addr).add x = ⟨b, off + x, none⟩ := by
  unfold Addr.add
  split
  · rename_i h; subst h; rfl
  · rfl
theorem cells?_at {a : Addr} {n : Nat} {cs : List Value} (h : w.cells? base a n = some cs) : base ≤ a.block ∧ cs.length = n ∧ ∀ i, i < n → w.cell? (a.add i) = cs[i]? := by
  unfold World.cells? at h
  split at h
  · rename_i hb
    have h1 := mapM_some_length h
    have h2 := mapM_some_get h
    rw [List.length_range] at h1
    exact ⟨hb, h1, fun i hi => h2 i i (by rw [List.getElem?_range hi])⟩
  · cases h
/-- A slice whose elements are flat: where it lies, and each element's cells. -/
theorem open_flat_slice {r : Reach} {b0 : Nat} {t e : TypeId} {v : Value} {dd : DataW H} {p : List MemPlace} (d : Nat) (ls : List Leaf) (ht : P.underlying t = some (.slice e)) (hl : layout P d e = some ls) (hpos : 0 < ls.length)
    (hv : Value.okWide P w r b0 t v) (h : DataW.Trod enc P w base spare held t v dd p) :
    ∃ A len cap, v = .slice A len cap ∧ len ≤ cap ∧ cap ≤ maxLen ∧ (0 < len → ∃ b off, A = some ⟨b, off, none⟩ ∧ base ≤ b ∧ b < w.heap.size ∧ ∀ i, i < len → ∃ cs : List Value, fitAllW ls cs = true ∧ ∀ j, j < ls.length → w.cell? ⟨b, off + i * ls.length + j, none⟩ = cs[j]?) := by
  obtain ⟨fuel, hf⟩ := h
  have hne : v.cells.toList = [v] := by
    cases v with
    | agg cs => simp [Value.okWide, ht, Cell.okWide, Cell.ok] at hv
    | _ => rfl
  rw [hne] at hf
  rcases DataW.trod_slice ht hf with ⟨hcs, _⟩ | ⟨a, len, cap, elems, rest, n, _, hcs, _, hb, hle, hm, hlen, hel, _, _⟩
  · obtain rfl : v = .slice none 0 0 := by simpa using hcs
    exact ⟨none, 0, 0, rfl, Nat.le_refl _, by unfold maxLen; omega, fun h => absurd h (by omega)⟩
  · obtain rfl : v = .slice (some a) len cap := by simpa using hcs
    refine ⟨some a, len, cap, rfl, hle, hm, fun hp => ?_⟩
    have hce := layout_cells hl
    have each : ∀ i, i < len → ∃ cs : List Value, fitAllW ls cs = true ∧ ∀ j, j < ls.length → w.cell? ((a.add (i * ls.length)).add j) = cs[j]? := fun i hi => by
      have h1 := hel i hi
      rw [List.getElem?_eq_getElem (by omega)] at h1
      obtain ⟨cs, h2, h3⟩ := Option.bind_eq_some_iff.1 h1
      rw [hce] at h2
      obtain ⟨_, h4, h5⟩ := cells?_at h2
      exact ⟨cs, flat_of_trod d n e ls cs _ hl h3, h5⟩
    -- the address is a cell's
    have hs : a.spot = none ∧ a.block < w.heap.size := by
      obtain ⟨cs, h1, h2⟩ := each 0 hp
      have h3 := h2 0 hpos
      have h4 := fitAllW_length h1
      rw [List.getElem?_eq_getElem (by omega)] at h3
      have e : (a.add (0 * ls.length)).add 0 = a := by simp [Addr.add]
      rw [e] at h3
      refine ⟨?_, World.block_lt_of_cell? w a h3⟩
      unfold World.cell? at h3
      split at h3
      · split at h3
        · cases h3
        · rename_i hh
          cases hsp : a.spot with
          | none => rfl
          | some x => rw [hsp] at hh; simp at hh
      · cases h3
    obtain ⟨b, off, sp⟩ := a
    obtain ⟨hs1, hs2⟩ := hs
    simp only at hs1 hs2
    subst hs1
    refine ⟨b, off, rfl, hb, hs2, fun i hi => ?_⟩
    obtain ⟨cs, h1, h2⟩ := each i hi
    refine ⟨cs, h1, fun j hj => ?_⟩
    have e : ((⟨b, off, none⟩ : Addr).add (i * ls.length)).add j = ⟨b, off + i * ls.length + j, none⟩ := by
      rw [addr_add, addr_add]
    rw [← e]
    exact h2 j hj
end
/-- The whole number behind an address. -/
def intCell (w : World) (A : Option Addr) (k : Nat) : Int := match A with | some a => intOf ((w.cell? ⟨a.block, a.off + k, none⟩).getD (.bool false)) | none => 0
/-- What 'open_flat_slice' tells, cell by cell, as whole numbers. -/
theorem int_cells {w : World} {A : Option Addr} {len base : Nat} {ls : List Leaf} (h : 0 < len → ∃ b off, A = some ⟨b, off, none⟩ ∧ base ≤ b ∧ b < w.heap.size ∧ ∀ i, i < len → ∃ cs : List Value, fitAllW ls cs = true ∧ ∀ j, j < ls.length → w.cell? ⟨b, off + i * ls.length + j, none⟩ = cs[j]?) :
    0 < len → ∃ b off, A = some ⟨b, off, none⟩ ∧ b < w.heap.size ∧ ∀ i, i < len → ∀ (j : Nat) (k : IntKind), ls[j]? = some (.int k) → w.cell? ⟨b, off + i * ls.length + j, none⟩ = some (.int k (intCell w A (i * ls.length + j))) ∧ (Lit.int k (intCell w A (i * ls.length + j))).wf = true := by
  intro hp
  obtain ⟨b, off, rfl, _, hb, hc⟩ := h hp
  refine ⟨b, off, rfl, hb, fun i hi j k hj => ?_⟩
  obtain ⟨cs, h1, h2⟩ := hc i hi
  obtain ⟨n, h3, h4⟩ := fitAllW_at j k h1 hj
  have h5 := h2 j (List.getElem?_eq_some_iff.1 hj).1
  rw [h3] at h5
  have h6 : intCell w (some ⟨b, off, none⟩) (i * ls.length + j) = n := by
    unfold intCell
    simp only
    rw [← Nat.add_assoc, h5]
    rfl
  rw [h6]
  exact ⟨h5, h4⟩
end Go
end

section
namespace Go.Proofs.YtcibajleknhklaaDoor
open Go.ChangeShapes Go.WideShapes Go.ChangeAt Go.WideMaps Go.WideElems Go.RowKit
set_option maxRecDepth 100000 in
theorem shareAlike_lifted (os : Os) (started : os.Started) (H : Type) (enc : TypeId × Value → H) :
    ReturnsInHanded {} Tryd.checked os 12 .any (fun w args => (Rows.shareAlikeSpec.pre enc Tryd.prog Tryd.f12 [] false w args ∧ laidMetH Tryd.prog Rows.shareAlikeRow.laid w) ∧ sizedMet enc Tryd.prog Tryd.f12 (OpenSpec.ofChange Rows.shareAlikeSpec) false w args)
      (Rows.shareAlikeSpec.post enc Tryd.prog Tryd.f12 false true false false) := by
  refine returnsInHanded_of_change_and (C := Tryd.checked) (X := fun w _ => laidMetH Tryd.prog Rows.shareAlikeRow.laid w) (fun _ _ _ hh h => h.of_heap hh) (by kernel_rfl) started (by kernel_rfl) Tryd.func12
    (ChangeSpec.witness_shaped (enc := enc) (C := Tryd.checked) (os := os) (X := fun w _ => laidMetH Tryd.prog Rows.shareAlikeRow.laid w) false (World.doorLaid Tryd.prog 400 os) #[.slice none 0 0] 8 rfl (World.shaped_of_RefB (by kernel_rfl) (by kernel_rfl)) (by kernel_rfl) (by kernel_rfl) (by kernel_rfl)
      (laidMetH_of_parts3 (fuel := 8) (laidMet_of_run' 8 (by kernel_rfl) (by kernel_rfl)) (by kernel_rfl) (by kernel_rfl))) ?_
  intro W base args ds gs before hval0 hW _ _ hL _
  have hval : ∀ (j : Nat) t v, Tryd.f12.params[j]? = some t → args[j]? = some v → Value.okWide Tryd.prog W .any base t v := hval0
  have hW' := hW
  obtain ⟨p, q, hA0, hV, rfl, hfz, hnd⟩ := hW
  have hA : DataW.TrodAll enc Tryd.prog W 0 (fun _ => true) true Tryd.f12.params.toList args.toList ds p := hA0
  have hA2 := hA
  rw [Tryd.params12] at hA hval
  obtain ⟨v0, d0, rfl, rfl, h0⟩ := trodAll_one hA
  obtain ⟨rfl, rfl⟩ := trodVars_none hV
  obtain ⟨A, len, cap, rfl, hle, hm, hcs⟩ := open_flat_slice 5 [.int .i64, .int .i64, .int .i64, .int .i64] Tryd.underlying89 (by kernel_rfl) (by decide) (hval 0 89 v0 rfl rfl) h0
  have hic := int_cells hcs
  rw [MakeChecks.laidMetH_plain _ _ _ (by kernel_rfl)] at hL
  have hT : WidthW W := widths_of hL
  simp only [List.append_nil] at hW'
  refine (alike_any len cap A (fun i j => intCell W A (i * 4 + j)) W hT (fun hp => ?_)).mono fun e W' ⟨he, hb⟩ => ?_
  · obtain ⟨bk, off, hA, hb, hc⟩ := hic hp
    refine ⟨bk, off, hA, hb, fun i hi j hj => ?_⟩
    have h4 : ([.int .i64, .int .i64, .int .i64, .int .i64] : List Leaf)[j]? = some (.int .i64) := by
      rcases (show j = 0 ∨ j = 1 ∨ j = 2 ∨ j = 3 by omega) with h | h | h | h <;> subst h <;> rfl
    exact (hc i hi j .i64 h4).1
  subst he
  have e1 : Rows.shareAlikeSpec.fn H ([d0] ++ []) = { results := [.lit (.bool true)], args := [d0] } := by simp [Rows.shareAlikeSpec]
  refine ⟨_, rfl, _, _, _, [], p, [], hW', ?_, ?_, ?_, hb.frame _, fun h => by cases h⟩
  · rw [e1]; exact trodAll_mk1 (shut_bool Tryd.underlying4 _)
  · rw [e1]; exact trodAll_below (by kernel_rfl) hb _ _ _ _ (by kernel_rfl) hA2 (fun x hx => by simpa using hW'.lt x (by simpa using hx))
  · rw [e1]; rfl
theorem shareAlike_holds : Rows.ShareAlikeSaid :=
  OpenClaim.holds_of_wide 12 Tryd.f12 rfl rfl rfl rfl rfl rfl rfl ⟨rfl, rfl, rfl, rfl, rfl⟩ rfl rfl rfl rfl rfl (by kernel_rfl) Tryd.func12 (by kernel_rfl)
    (of_decide_eq_true (by kernel_rfl)) (by unfold Func.isWrapper; rw [if_neg (of_decide_eq_false (by kernel_rfl))]; exact ⟨rfl, rfl⟩)
    (fun os started H enc _ => shareAlike_lifted os started H enc)
theorem shareAlike_card : Rows.ShareAlikeCardSaid :=
  Claim7.holds_tied_plain_at .later [] [.data] true (true, "ae348317897b4f8711de699b2180ffb779772e4703cfa942f657876935132cc0") false
    shareAlike_holds (fun _ h => by cases h) (by kernel_rfl) (fun _ h => by cases h) shareAlike_row_tie rfl ⟨rfl, rfl⟩ (by kernel_rfl) rfl
    (fun f fn hf hfn => by
      obtain rfl : f = 12 := Option.some.inj ((show Tryd.prog.funcNamed "spinet/spinetlaw15.ShareAlike" = some 12 by kernel_rfl).symm.trans hf) |>.symm
      obtain rfl : fn = Tryd.f12 := (Option.some.inj (Tryd.func12.symm.trans hfn)).symm
      exact ⟨by kernel_rfl, fun j t ht => by
        rw [Tryd.params12] at ht
        have hm : t ∈ [89] := by simpa using Array.mem_of_getElem? ht
        have hall : ([89].all fun u => !Tryd.prog.wantsStandIn u) = true := by kernel_rfl
        exact (show Tryd.prog.wantsStandIn t = false by simpa using List.all_eq_true.1 hall t (by simpa using hm))⟩)
    (by kernel_rfl)
end Go.Proofs.YtcibajleknhklaaDoor
end

