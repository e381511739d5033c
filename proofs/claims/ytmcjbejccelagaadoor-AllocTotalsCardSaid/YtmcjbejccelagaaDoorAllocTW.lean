/-
  AllocTotals, walked.
-/
import Derived.Test.YtmcjbejccelagaaDoorAllocMW
import Derived.Test.YtmcjbejccelagaaDoorRefT
namespace Go
open Go.RowKit
/-- What a region may do that makes a book and works with it: all that was there stays, and books stay books. -/
structure TB (V W W' : World) : Prop where
  below : Below V.heap.size W W'
  books : ∀ T b m, BookOK T b m W → BookOK T b m W'
theorem TB.of_below {V W W' : World} (hs : V.heap.size ≤ W.heap.size) (h : Below W.heap.size W W') : TB V W W' :=
  ⟨h.mono hs, fun _ _ _ hB => hB.inv (hB.refl.below h)⟩
theorem TB.of_bk {V W W' : World} {m : Nat} (hm : V.heap.size ≤ m) (hs : V.heap.size ≤ W.heap.size) (h : BkInv m W W') (hmap : ∃ es clk, W.heap[m]? = some (.map es clk)) : TB V W W' := by
  refine ⟨below_of_bk h hs hm, fun T b m' hB => ?_⟩
  obtain ⟨es, clk, h1⟩ := hmap
  have hbm : m ≠ b := fun e => by
    subst e
    rw [hB.book] at h1
    cases h1
  by_cases e : m = m'
  · subst e
    exact ⟨(h.block b hB.lt_b hbm).trans hB.book, hB.ne, h.map⟩
  · obtain ⟨es', clk', h2, h3⟩ := hB.map
    exact ⟨(h.block b hB.lt_b hbm).trans hB.book, hB.ne, es', clk', (h.block m' hB.lt_m e).trans h2, h3⟩
end Go
namespace Go.Proofs.YtmcjbejccelagaaDoor
open Go.RowKit Go.BigFrame Go.Vec Go.Cost
set_option linter.unusedSimpArgs false

theorem slope_wrong {s c : Int} (h : ¬RightP s c) (t b : Int) : slopeF s c t b = 0 := by
  have hb : bandsF s c = 0 := by unfold bandsF; rw [if_neg h]
  have hw : widthF s c b = 0 := by unfold widthF; rw [hb, if_neg (by omega)]
  unfold slopeF
  rw [if_pos hw]
theorem total_wrong {s c : Int} (h : ¬RightP s c) (l : List Int) : totalF s c l = -1 := by
  unfold totalF
  rw [if_neg (fun hh => h hh.1)]
/-- A slope outside the bands is nought. -/
theorem slope_out {s c : Int} (t b : Int) (h : ¬(0 ≤ b ∧ b < bandsF s c)) : slopeF s c t b = 0 := by
  have hw : widthF s c b = 0 := by unfold widthF; rw [if_neg h]
  unfold slopeF
  rw [if_pos hw]

set_option maxHeartbeats 2000000 in
set_option maxRecDepth 100000 in
theorem allocTotals_any (s c k0 k1 k2 k3 k4 : Int) (w : World) (hT : WidthW w) : Calls Tryd.prog 8 #[.int .i64 s, .int .i64 c, .agg #[.int .i64 k0, .int .i64 k1, .int .i64 k2, .int .i64 k3, .int .i64 k4]] w fun e w' => e = .returned (.bool true) ∧ Below w.heap.size w w' := by
  have ha := Lib.hid (fun w hT => awake14 w hT)
  have HT := Lib.hid hT
  clear hT
  go_enter Tryd.func8, Tryd.ntmps8
  go_wp2_with fail
  refine (ha.out _ (HT.out.below (by (repeat' (first | (with_reducible exact Below.refl _ _) | (with_reducible assumption) | (with_reducible refine Below.alloc ?_ ?_ _) | (with_reducible refine below_grew ?_ ?_ _) | (with_reducible refine Below.setCell ?_ ?_ _) | (with_reducible refine Below.drew ?_) | (with_reducible refine below_drewN ?_ _) | omega | (simp; done) | (simp; omega)))))).mono ?_
  rintro e w0 ⟨rfl, hb0⟩
  obtain ⟨x0, rfl⟩ := below_as_grew hb0
  clear hb0
  go_wp2_with fail
  refine cut_world (fun V => Below w.heap.size w V ∧ w.heap.size < V.heap.size ∧ w.heap.size + 1 + x0.objs.size < V.heap.size ∧ V.cell? ⟨w.heap.size, 0, none⟩ = some (.int .i64 k0) ∧ V.cell? ⟨w.heap.size, 1, none⟩ = some (.int .i64 k1) ∧ V.cell? ⟨w.heap.size, 2, none⟩ = some (.int .i64 k2) ∧ V.cell? ⟨w.heap.size, 3, none⟩ = some (.int .i64 k3) ∧ V.cell? ⟨w.heap.size, 4, none⟩ = some (.int .i64 k4) ∧ V.cell? ⟨w.heap.size + 1 + x0.objs.size, 0, none⟩ = some (.int .i64 s) ∧ V.cell? ⟨w.heap.size + 1 + x0.objs.size, 1, none⟩ = some (.int .i64 c)) ⟨by (repeat' (first | (with_reducible exact Below.refl _ _) | (with_reducible assumption) | (with_reducible refine Below.alloc ?_ ?_ _) | (with_reducible refine below_grew ?_ ?_ _) | (with_reducible refine Below.setCell ?_ ?_ _) | (with_reducible refine Below.drew ?_) | (with_reducible refine below_drewN ?_ _) | omega | (simp; done) | (simp; omega))), by simp; omega, by simp, by simp [go_sem], by simp [go_sem], by simp [go_sem], by simp [go_sem], by simp [go_sem], by simp [go_sem], by simp [go_sem]⟩ ?_
  rintro V ⟨hV, hVs, hVs2, va0, va1, va2, va3, va4, vm0, vm1⟩
  have hTV : WidthW V := HT.out.below hV
  generalize w.heap.size + 1 + x0.objs.size = M at *
  generalize hBd : w.heap.size = B at *
  have HBd := Lib.hid hBd
  clear hBd
  refine wp_region_inv [] (fun W => Below V.heap.size V W) (fun W W' => TB V W W') 4 (by kernel_rfl) (by kernel_rfl) (by kernel_rfl) ((Below.refl _ _).drew) (fun W W' h h' => h.trans h'.below) (fun _ _ h => h.below.size) ?_
  simp only [List.take_succ_cons, List.take_zero, List.drop_succ_cons, List.drop_zero]
  refine ⟨fun U W => ∃ b m, U 0 = .pointer (some ⟨b, 0, none⟩) ∧ V.heap.size ≤ b ∧ V.heap.size ≤ m ∧ Book b m W, fun _ _ => rfl, ?_, ?_, ?_⟩
  · rintro U W W' hC hT ⟨b, m, h0, hb, hm, hB⟩
    exact ⟨b, m, h0, hb, hm, hT.books _ _ _ hB⟩
  · intro U W hC hH
    simp only [fillPuts, Act.put, List.setIfInBounds_toArray, List.set_cons_zero, List.set_cons_succ]
    go_wp2_with fail
    refine (bookNew _).mono ?_
    rintro e w1 ⟨b, m, rfl, hb, hm, hB, hb1⟩
    go_wp2_with fail
    have := hC.size
    exact ⟨rfl, rfl, TB.of_below hC.size hb1, ⟨b, m, updU_eq _ _ _, by omega, by omega, hB⟩, fun h => by cases h⟩
  refine wpInv_det (by kernel_rfl) (by kernel_rfl) ?_
  apply Exists.intro
  refine ⟨?_, ?_, ?_⟩
  · intro U W hC hH
    obtain ⟨hc1, hf1⟩ := bcell hC
    simp only [HypsU, predsOf, Region.binds, List.filterMap_cons, List.filterMap_nil, if_true, List.nil_append, List.cons_append, List.getD_cons_zero, List.getD_cons_succ] at hH
    simp only [fillPuts, Act.put, List.setIfInBounds_toArray, List.set_cons_zero, List.set_cons_succ, Nat.reduceAdd]
    go_wp2_with fail
    refine ⟨rfl, rfl, by first | exact TB.of_below hC.size (by (repeat' (first | (with_reducible exact Below.refl _ _) | (with_reducible assumption) | (with_reducible refine Below.alloc ?_ ?_ _) | (with_reducible refine below_grew ?_ ?_ _) | (with_reducible refine Below.setCell ?_ ?_ _) | (with_reducible refine Below.drew ?_) | (with_reducible refine below_drewN ?_ _) | omega | (simp; done) | (simp; omega)))) | assumption, ?_⟩
    conv => lhs; whnf
    try rfl
  · exact fun _ => rfl
  simp only [List.nil_append, List.cons_append, Nat.reduceAdd]
  refine wpInv_det (by kernel_rfl) (by kernel_rfl) ?_
  apply Exists.intro
  refine ⟨?_, ?_, ?_⟩
  · intro U W hC hH
    obtain ⟨hc1, hf1⟩ := bcell hC
    simp only [HypsU, predsOf, Region.binds, List.filterMap_cons, List.filterMap_nil, if_true, List.nil_append, List.cons_append, List.getD_cons_zero, List.getD_cons_succ] at hH
    simp only [fillPuts, Act.put, List.setIfInBounds_toArray, List.set_cons_zero, List.set_cons_succ, Nat.reduceAdd]
    go_wp2_with fail
    refine ⟨rfl, rfl, by first | exact TB.of_below hC.size (by (repeat' (first | (with_reducible exact Below.refl _ _) | (with_reducible assumption) | (with_reducible refine Below.alloc ?_ ?_ _) | (with_reducible refine below_grew ?_ ?_ _) | (with_reducible refine Below.setCell ?_ ?_ _) | (with_reducible refine Below.drew ?_) | (with_reducible refine below_drewN ?_ _) | omega | (simp; done) | (simp; omega)))) | assumption, ?_⟩
    conv => lhs; whnf
    try rfl
  · exact fun _ => rfl
  simp only [List.nil_append, List.cons_append, Nat.reduceAdd]
  refine wpInv_det (by kernel_rfl) (by kernel_rfl) ?_
  apply Exists.intro
  refine ⟨?_, ?_, ?_⟩
  · intro U W hC hH
    simp only [HypsU, predsOf, Region.binds, List.filterMap_cons, List.filterMap_nil, if_true, List.nil_append, List.cons_append, List.getD_cons_zero, List.getD_cons_succ] at hH
    obtain ⟨⟨b, m, h0, hb, hm, hB⟩, h1, h2, -⟩ := hH
    have hWs := hC.size
    have hTW : WidthW W := hTV.below hC
    have hmap : ∃ es clk, W.heap[m]? = some (.map es clk) := by
      obtain ⟨es, clk, h5, _⟩ := hB.map
      exact ⟨es, clk, h5⟩
    simp only [fillPuts, Act.put, List.setIfInBounds_toArray, List.set_cons_zero, List.set_cons_succ, Nat.reduceAdd]
    simp only [h0, h1, h2]
    go_wp2_with fail
    refine (total_any _ _ _ _ _ _ _ b m _ hB hTW).mono ?_
    rintro e w' ⟨rfl, y1, rfl⟩
    go_wp2_with fail
    refine ⟨rfl, rfl, TB.of_bk hm hWs (hB.refl.bkd y1) hmap, ?_⟩
    conv => lhs; whnf
    try rfl
  · exact fun _ => rfl
  simp only [List.nil_append, List.cons_append, Nat.reduceAdd]
  simp only [List.nil_append, List.cons_append, Nat.reduceAdd, fillPuts, Act.put, List.setIfInBounds_toArray, List.set_cons_zero, List.set_cons_succ]
  rintro U W hC ⟨⟨b, m, h0, hb, hm, hB⟩, h1, h2, h3, -⟩ -
  simp only [h0, h1, h2, h3]
  clear hB h0 h1 h2 h3
  have hWs := hC.size
  have hTW : WidthW W := hTV.below hC
  have lB : B < W.heap.size := by omega
  have lM : M < W.heap.size := by omega
  obtain ⟨hc1, _⟩ := bcell hC
  have wa0 := (hc1 B 0 hVs).trans va0
  have wa1 := (hc1 B 1 hVs).trans va1
  have wa2 := (hc1 B 2 hVs).trans va2
  have wa3 := (hc1 B 3 hVs).trans va3
  have wa4 := (hc1 B 4 hVs).trans va4
  have wm0 := (hc1 M 0 hVs2).trans vm0
  have wm1 := (hc1 M 1 hVs2).trans vm1
  have hBW := Lib.hid (show Below B w W from hV.trans (hC.mono (by omega)))
  clear hc1 va0 va1 va2 va3 va4 vm0 vm1 hC
  have hsl := Lib.hid (fun x => slope_any s c k0 k1 (W.grew x) (hTW.below (by (repeat' (first | (with_reducible exact Below.refl _ _) | (with_reducible assumption) | (with_reducible refine Below.alloc ?_ ?_ _) | (with_reducible refine below_grew ?_ ?_ _) | (with_reducible refine Below.setCell ?_ ?_ _) | (with_reducible refine Below.drew ?_) | (with_reducible refine below_drewN ?_ _) | omega | (simp; done) | (simp; omega))))))
  go_wp2_with fail
  refine (refRight _ _ _).mono ?_
  rintro e w' ⟨rfl, hb1⟩; obtain ⟨x1, rfl⟩ := below_as_grew hb1; clear hb1
  by_cases hR : RightP s c
  · have hR' : decide (RightP s c) = true := decide_eq_true hR
    rw [hR']
    have hrt := Lib.hid (fun w => refTotal s c hR k0 k1 k2 k3 k4 w)
    have hbn := Lib.hid (fun w => refBands s c hR w)
    have hbd := bandsF_bd s c
    have Hsr := Lib.hid (fun b : Nat => slopeR_eq s c k0 b)
    have Hso := Lib.hid (slope_out (s := s) (c := c) k0 k1)
    generalize totalF s c [k0, k1, k2, k3, k4] = T at *
    generalize bandsF s c = nb at *
    clear hR hR'
    by_cases h0 : 0 ≤ k1
    · by_cases h1 : k1 < nb
      · obtain ⟨n, rfl⟩ := Int.eq_ofNat_of_zero_le h0
        have hn5 : n < 5 := by omega
        have hrs := Lib.hid (fun w => refSlope k0 n hn5 w)
        rw [Hsr.out n h1] at hsl
        generalize slopeR k0 n = sl at *
        clear Hsr Hso
        go_wp2_with fail
        first | refine wp_region_grew_all2 (by kernel_rfl) (by kernel_rfl) ?_ | refine wp_region_grew_all (by kernel_rfl) (by kernel_rfl) ?_
        repeat (go_big_quiet_step (first | (go_at_call 33; exact Calls.grew_of (hbn.out _))))
        refine wpQuiet_nil ?_
        rintro _ ⟨x, rfl⟩
        go_wp2_with fail
        refine (hrs.out _).mono ?_
        rintro e w' ⟨rfl, hb1⟩; obtain ⟨x1, rfl⟩ := below_as_grew hb1; clear hb1
        go_wp2_with fail
        refine (hrt.out _).mono ?_
        rintro e w' ⟨rfl, hb1⟩; obtain ⟨x1, rfl⟩ := below_as_grew hb1; clear hb1
        go_wp2_with fail
        refine (hsl.out _).mono ?_
        rintro e w' ⟨rfl, hb1⟩; obtain ⟨x1, rfl⟩ := below_as_grew hb1; clear hb1
        go_wp2_with fail
        go_ret
        exact ⟨rfl, by rw [HBd.out]; exact below_grew hBW.out (by omega) _⟩
      · rw [Hso.out (by omega)] at hsl
        clear Hsr Hso
        go_wp2_with fail
        first | refine wp_region_grew_all2 (by kernel_rfl) (by kernel_rfl) ?_ | refine wp_region_grew_all (by kernel_rfl) (by kernel_rfl) ?_
        repeat (go_big_quiet_step (first | (go_at_call 33; exact Calls.grew_of (hbn.out _))))
        refine wpQuiet_nil ?_
        rintro _ ⟨x, rfl⟩
        go_wp2_with fail
        refine (hrt.out _).mono ?_
        rintro e w' ⟨rfl, hb1⟩; obtain ⟨x1, rfl⟩ := below_as_grew hb1; clear hb1
        go_wp2_with fail
        refine (hsl.out _).mono ?_
        rintro e w' ⟨rfl, hb1⟩; obtain ⟨x1, rfl⟩ := below_as_grew hb1; clear hb1
        go_wp2_with fail
        go_ret
        exact ⟨rfl, by rw [HBd.out]; exact below_grew hBW.out (by omega) _⟩
    · have D0 : decide (0 ≤ k1) = false := decide_eq_false h0
      rw [Hso.out (by omega)] at hsl
      clear Hsr Hso
      go_wp2_with fail
      first | refine wp_region_grew_all2 (by kernel_rfl) (by kernel_rfl) ?_ | refine wp_region_grew_all (by kernel_rfl) (by kernel_rfl) ?_
      repeat (go_big_quiet_step (first | (go_at_call 33; exact Calls.grew_of (hbn.out _))))
      refine wpQuiet_nil ?_
      rintro _ ⟨x, rfl⟩
      go_wp2_with fail
      refine (hrt.out _).mono ?_
      rintro e w' ⟨rfl, hb1⟩; obtain ⟨x1, rfl⟩ := below_as_grew hb1; clear hb1
      go_wp2_with fail
      refine (hsl.out _).mono ?_
      rintro e w' ⟨rfl, hb1⟩; obtain ⟨x1, rfl⟩ := below_as_grew hb1; clear hb1
      go_wp2_with fail
      go_ret
      exact ⟨rfl, by rw [HBd.out]; exact below_grew hBW.out (by omega) _⟩
  · have hR' : decide (RightP s c) = false := decide_eq_false hR
    rw [hR', total_wrong hR]
    rw [slope_wrong hR] at hsl
    clear hR hR'
    go_wp2_with fail
    refine (hsl.out _).mono ?_
    rintro e w' ⟨rfl, hb1⟩; obtain ⟨x1, rfl⟩ := below_as_grew hb1; clear hb1
    go_wp2_with fail
    go_ret
    exact ⟨rfl, by rw [HBd.out]; exact below_grew hBW.out (by omega) _⟩
end Go.Proofs.YtmcjbejccelagaaDoor
