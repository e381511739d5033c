/-
  AllocTells, walked.
-/
import Derived.Test.YtmcjbejccelagaaDoorRefA
import Derived.Test.YtmcjbejccelagaaDoorAllocMW
namespace Go.Proofs.YtmcjbejccelagaaDoor
open Go.RowKit Go.BigFrame Go.Vec Go.Cost
set_option linter.unusedSimpArgs false
theorem allocF_wrong {s c : Int} (h : ¬RightP s c) (t bud : Int) : allocF s c t bud = [0, 0, 0, 0, 0] := by
  have hb : bandsF s c = 0 := by unfold bandsF; rw [if_neg h]
  have hbest : bestF s c t [0, 0, 0, 0, 0] = -1 := by unfold bestF; rw [hb]; rfl
  have h : allocGo s c t bud (160 + 1) [0, 0, 0, 0, 0] = [0, 0, 0, 0, 0] := by
    unfold allocGo
    rw [hbest]
    rfl
  exact h

set_option maxHeartbeats 2000000 in
set_option maxRecDepth 100000 in
theorem allocTells_any (s c t bud : Int) (w : World) (hT : WidthW w) : Calls Tryd.prog 7 #[.agg #[.int .i64 s, .int .i64 c, .int .i64 t, .int .i64 bud]] w fun e w' => e = .returned (.bool true) ∧ Below w.heap.size w w' := by
  have ha := Lib.hid (fun w hT => awake14 w hT)
  have HT := Lib.hid hT
  have he := fun (k0 k1 k2 k3 k4 l0 l1 l2 l3 l4 : Int) w => eq_flat (P := Tryd.prog) 22 3 [.int .i64, .int .i64, .int .i64, .int .i64, .int .i64] (by kernel_rfl) (by decide) (by kernel_rfl) [.int .i64 k0, .int .i64 k1, .int .i64 k2, .int .i64 k3, .int .i64 k4] [.int .i64 l0, .int .i64 l1, .int .i64 l2, .int .i64 l3, .int .i64 l4] rfl rfl w
  obtain ⟨l0, l1, l2, l3, l4, hl⟩ := allocF_five s c t bud
  have a1 := Lib.hid (show aggOf (allocF s c t bud) = .agg #[.int .i64 l0, .int .i64 l1, .int .i64 l2, .int .i64 l3, .int .i64 l4] by rw [hl]; rfl)
  have HL := Lib.hid hl
  clear hT hl
  go_enter Tryd.func7, Tryd.ntmps7
  go_wp2_with fail
  refine (ha.out _ (HT.out.below (by (repeat' (first | (with_reducible exact Below.refl _ _) | (with_reducible assumption) | (with_reducible refine Below.alloc ?_ ?_ _) | (with_reducible refine below_grew ?_ ?_ _) | (with_reducible refine Below.setCell ?_ ?_ _) | (with_reducible refine Below.drew ?_) | (with_reducible refine below_drewN ?_ _) | omega | (simp; done) | (simp; omega)))))).mono ?_
  rintro e w0 ⟨rfl, hb0⟩
  obtain ⟨x0, rfl⟩ := below_as_grew hb0
  clear hb0
  go_wp2_with fail
  refine cut_world (fun V => Below w.heap.size w V ∧ w.heap.size < V.heap.size ∧ V.cell? ⟨w.heap.size, 0, none⟩ = some (.int .i64 s) ∧ V.cell? ⟨w.heap.size, 1, none⟩ = some (.int .i64 c) ∧ V.cell? ⟨w.heap.size, 2, none⟩ = some (.int .i64 t) ∧ V.cell? ⟨w.heap.size, 3, none⟩ = some (.int .i64 bud)) ⟨by (repeat' (first | (with_reducible exact Below.refl _ _) | (with_reducible assumption) | (with_reducible refine Below.alloc ?_ ?_ _) | (with_reducible refine below_grew ?_ ?_ _) | (with_reducible refine Below.setCell ?_ ?_ _) | (with_reducible refine Below.drew ?_) | (with_reducible refine below_drewN ?_ _) | omega | (simp; done) | (simp; omega))), by simp; omega, by simp [go_sem], by simp [go_sem], by simp [go_sem], by simp [go_sem]⟩ ?_
  rintro V ⟨hV, hVs, va0, va1, va2, va3⟩
  have hTV : WidthW V := HT.out.below hV
  generalize hBd : w.heap.size = B at *
  have HBd := Lib.hid hBd
  clear hBd
  refine wp_region_inv [] (fun W => Below V.heap.size V W) (fun W W' => TB V W W') 12 (by kernel_rfl) (by kernel_rfl) (by kernel_rfl) ((Below.refl _ _).drew) (fun W W' h h' => h.trans h'.below) (fun _ _ h => h.below.size) ?_
  simp only [List.take_succ_cons, List.take_zero, List.drop_succ_cons, List.drop_zero]
  refine ⟨fun U W => ∃ b m, U 0 = .pointer (some ⟨b, 0, none⟩) ∧ V.heap.size ≤ b ∧ V.heap.size ≤ m ∧ Book b m W, fun _ _ => rfl, ?_, ?_, ?_⟩
  · rintro U W W' hC hT ⟨b, m, h0, hb, hm, hB⟩
    exact ⟨b, m, h0, hb, hm, hT.books _ _ _ hB⟩
  · intro U W hC hH
    simp only [fillPuts, Act.put, List.setIfInBounds_toArray, List.set_cons_zero, List.set_cons_succ]
    go_wp2_with fail
    refine (bookNew _).mono ?_
    rintro e w1 ⟨b, m, rfl, hb, hm, hB, hb1⟩
    go_wp2_with fail
    have := hC.size
    exact ⟨rfl, rfl, TB.of_below hC.size hb1, ⟨b, m, updU_eq _ _ _, by omega, by omega, hB⟩, fun h => by cases h⟩
  refine wpInv_det (by kernel_rfl) (by kernel_rfl) ?_
  apply Exists.intro
  refine ⟨?_, ?_, ?_⟩
  · intro U W hC hH
    obtain ⟨hc1, hf1⟩ := bcell hC
    simp only [HypsU, predsOf, Region.binds, List.filterMap_cons, List.filterMap_nil, if_true, List.nil_append, List.cons_append, List.getD_cons_zero, List.getD_cons_succ] at hH
    simp only [fillPuts, Act.put, List.setIfInBounds_toArray, List.set_cons_zero, List.set_cons_succ, Nat.reduceAdd]
    go_wp2_with fail
    refine ⟨rfl, rfl, by first | exact TB.of_below hC.size (by (repeat' (first | (with_reducible exact Below.refl _ _) | (with_reducible assumption) | (with_reducible refine Below.alloc ?_ ?_ _) | (with_reducible refine below_grew ?_ ?_ _) | (with_reducible refine Below.setCell ?_ ?_ _) | (with_reducible refine Below.drew ?_) | (with_reducible refine below_drewN ?_ _) | omega | (simp; done) | (simp; omega)))) | assumption, ?_⟩
    conv => lhs; whnf
    try rfl
  · exact fun _ => rfl
  simp only [List.nil_append, List.cons_append, Nat.reduceAdd]
  refine wpInv_det (by kernel_rfl) (by kernel_rfl) ?_
  apply Exists.intro
  refine ⟨?_, ?_, ?_⟩
  · intro U W hC hH
    obtain ⟨hc1, hf1⟩ := bcell hC
    simp only [HypsU, predsOf, Region.binds, List.filterMap_cons, List.filterMap_nil, if_true, List.nil_append, List.cons_append, List.getD_cons_zero, List.getD_cons_succ] at hH
    simp only [fillPuts, Act.put, List.setIfInBounds_toArray, List.set_cons_zero, List.set_cons_succ, Nat.reduceAdd]
    go_wp2_with fail
    refine ⟨rfl, rfl, by first | exact TB.of_below hC.size (by (repeat' (first | (with_reducible exact Below.refl _ _) | (with_reducible assumption) | (with_reducible refine Below.alloc ?_ ?_ _) | (with_reducible refine below_grew ?_ ?_ _) | (with_reducible refine Below.setCell ?_ ?_ _) | (with_reducible refine Below.drew ?_) | (with_reducible refine below_drewN ?_ _) | omega | (simp; done) | (simp; omega)))) | assumption, ?_⟩
    conv => lhs; whnf
    try rfl
  · exact fun _ => rfl
  simp only [List.nil_append, List.cons_append, Nat.reduceAdd]
  refine wpInv_det (by kernel_rfl) (by kernel_rfl) ?_
  apply Exists.intro
  refine ⟨?_, ?_, ?_⟩
  · intro U W hC hH
    obtain ⟨hc1, hf1⟩ := bcell hC
    simp only [HypsU, predsOf, Region.binds, List.filterMap_cons, List.filterMap_nil, if_true, List.nil_append, List.cons_append, List.getD_cons_zero, List.getD_cons_succ] at hH
    simp only [fillPuts, Act.put, List.setIfInBounds_toArray, List.set_cons_zero, List.set_cons_succ, Nat.reduceAdd]
    go_wp2_with fail
    refine ⟨rfl, rfl, by first | exact TB.of_below hC.size (by (repeat' (first | (with_reducible exact Below.refl _ _) | (with_reducible assumption) | (with_reducible refine Below.alloc ?_ ?_ _) | (with_reducible refine below_grew ?_ ?_ _) | (with_reducible refine Below.setCell ?_ ?_ _) | (with_reducible refine Below.drew ?_) | (with_reducible refine below_drewN ?_ _) | omega | (simp; done) | (simp; omega)))) | assumption, ?_⟩
    conv => lhs; whnf
    try rfl
  · exact fun _ => rfl
  simp only [List.nil_append, List.cons_append, Nat.reduceAdd]
  refine wpInv_det (by kernel_rfl) (by kernel_rfl) ?_
  apply Exists.intro
  refine ⟨?_, ?_, ?_⟩
  · intro U W hC hH
    obtain ⟨hc1, hf1⟩ := bcell hC
    simp only [HypsU, predsOf, Region.binds, List.filterMap_cons, List.filterMap_nil, if_true, List.nil_append, List.cons_append, List.getD_cons_zero, List.getD_cons_succ] at hH
    simp only [fillPuts, Act.put, List.setIfInBounds_toArray, List.set_cons_zero, List.set_cons_succ, Nat.reduceAdd]
    go_wp2_with fail
    refine ⟨rfl, rfl, by first | exact TB.of_below hC.size (by (repeat' (first | (with_reducible exact Below.refl _ _) | (with_reducible assumption) | (with_reducible refine Below.alloc ?_ ?_ _) | (with_reducible refine below_grew ?_ ?_ _) | (with_reducible refine Below.setCell ?_ ?_ _) | (with_reducible refine Below.drew ?_) | (with_reducible refine below_drewN ?_ _) | omega | (simp; done) | (simp; omega)))) | assumption, ?_⟩
    conv => lhs; whnf
    try rfl
  · exact fun _ => rfl
  simp only [List.nil_append, List.cons_append, Nat.reduceAdd]
  refine wpInv_det (by kernel_rfl) (by kernel_rfl) ?_
  apply Exists.intro
  refine ⟨?_, ?_, ?_⟩
  · intro U W hC hH
    obtain ⟨hc1, hf1⟩ := bcell hC
    simp only [HypsU, predsOf, Region.binds, List.filterMap_cons, List.filterMap_nil, if_true, List.nil_append, List.cons_append, List.getD_cons_zero, List.getD_cons_succ] at hH
    simp only [fillPuts, Act.put, List.setIfInBounds_toArray, List.set_cons_zero, List.set_cons_succ, Nat.reduceAdd]
    go_wp2_with fail
    refine ⟨rfl, rfl, by first | exact TB.of_below hC.size (by (repeat' (first | (with_reducible exact Below.refl _ _) | (with_reducible assumption) | (with_reducible refine Below.alloc ?_ ?_ _) | (with_reducible refine below_grew ?_ ?_ _) | (with_reducible refine Below.setCell ?_ ?_ _) | (with_reducible refine Below.drew ?_) | (with_reducible refine below_drewN ?_ _) | omega | (simp; done) | (simp; omega)))) | assumption, ?_⟩
    conv => lhs; whnf
    try rfl
  · exact fun _ => rfl
  simp only [List.nil_append, List.cons_append, Nat.reduceAdd]
  refine wpInv_det (by kernel_rfl) (by kernel_rfl) ?_
  apply Exists.intro
  refine ⟨?_, ?_, ?_⟩
  · intro U W hC hH
    obtain ⟨hc1, hf1⟩ := bcell hC
    simp only [HypsU, predsOf, Region.binds, List.filterMap_cons, List.filterMap_nil, if_true, List.nil_append, List.cons_append, List.getD_cons_zero, List.getD_cons_succ] at hH
    simp only [fillPuts, Act.put, List.setIfInBounds_toArray, List.set_cons_zero, List.set_cons_succ, Nat.reduceAdd]
    go_wp2_with fail
    refine ⟨rfl, rfl, by first | exact TB.of_below hC.size (by (repeat' (first | (with_reducible exact Below.refl _ _) | (with_reducible assumption) | (with_reducible refine Below.alloc ?_ ?_ _) | (with_reducible refine below_grew ?_ ?_ _) | (with_reducible refine Below.setCell ?_ ?_ _) | (with_reducible refine Below.drew ?_) | (with_reducible refine below_drewN ?_ _) | omega | (simp; done) | (simp; omega)))) | assumption, ?_⟩
    conv => lhs; whnf
    try rfl
  · exact fun _ => rfl
  simp only [List.nil_append, List.cons_append, Nat.reduceAdd]
  refine wpInv_det (by kernel_rfl) (by kernel_rfl) ?_
  apply Exists.intro
  refine ⟨?_, ?_, ?_⟩
  · intro U W hC hH
    obtain ⟨hc1, hf1⟩ := bcell hC
    simp only [HypsU, predsOf, Region.binds, List.filterMap_cons, List.filterMap_nil, if_true, List.nil_append, List.cons_append, List.getD_cons_zero, List.getD_cons_succ] at hH
    simp only [fillPuts, Act.put, List.setIfInBounds_toArray, List.set_cons_zero, List.set_cons_succ, Nat.reduceAdd]
    go_wp2_with fail
    refine ⟨rfl, rfl, by first | exact TB.of_below hC.size (by (repeat' (first | (with_reducible exact Below.refl _ _) | (with_reducible assumption) | (with_reducible refine Below.alloc ?_ ?_ _) | (with_reducible refine below_grew ?_ ?_ _) | (with_reducible refine Below.setCell ?_ ?_ _) | (with_reducible refine Below.drew ?_) | (with_reducible refine below_drewN ?_ _) | omega | (simp; done) | (simp; omega)))) | assumption, ?_⟩
    conv => lhs; whnf
    try rfl
  · exact fun _ => rfl
  simp only [List.nil_append, List.cons_append, Nat.reduceAdd]
  refine wpInv_det (by kernel_rfl) (by kernel_rfl) ?_
  apply Exists.intro
  refine ⟨?_, ?_, ?_⟩
  · intro U W hC hH
    obtain ⟨hc1, hf1⟩ := bcell hC
    simp only [HypsU, predsOf, Region.binds, List.filterMap_cons, List.filterMap_nil, if_true, List.nil_append, List.cons_append, List.getD_cons_zero, List.getD_cons_succ] at hH
    simp only [fillPuts, Act.put, List.setIfInBounds_toArray, List.set_cons_zero, List.set_cons_succ, Nat.reduceAdd]
    go_wp2_with fail
    refine ⟨rfl, rfl, by first | exact TB.of_below hC.size (by (repeat' (first | (with_reducible exact Below.refl _ _) | (with_reducible assumption) | (with_reducible refine Below.alloc ?_ ?_ _) | (with_reducible refine below_grew ?_ ?_ _) | (with_reducible refine Below.setCell ?_ ?_ _) | (with_reducible refine Below.drew ?_) | (with_reducible refine below_drewN ?_ _) | omega | (simp; done) | (simp; omega)))) | assumption, ?_⟩
    conv => lhs; whnf
    try rfl
  · exact fun _ => rfl
  simp only [List.nil_append, List.cons_append, Nat.reduceAdd]
  refine wpInv_det (by kernel_rfl) (by kernel_rfl) ?_
  apply Exists.intro
  refine ⟨?_, ?_, ?_⟩
  · intro U W hC hH
    obtain ⟨hc1, hf1⟩ := bcell hC
    simp only [HypsU, predsOf, Region.binds, List.filterMap_cons, List.filterMap_nil, if_true, List.nil_append, List.cons_append, List.getD_cons_zero, List.getD_cons_succ] at hH
    simp only [fillPuts, Act.put, List.setIfInBounds_toArray, List.set_cons_zero, List.set_cons_succ, Nat.reduceAdd]
    go_wp2_with fail
    refine ⟨rfl, rfl, by first | exact TB.of_below hC.size (by (repeat' (first | (with_reducible exact Below.refl _ _) | (with_reducible assumption) | (with_reducible refine Below.alloc ?_ ?_ _) | (with_reducible refine below_grew ?_ ?_ _) | (with_reducible refine Below.setCell ?_ ?_ _) | (with_reducible refine Below.drew ?_) | (with_reducible refine below_drewN ?_ _) | omega | (simp; done) | (simp; omega)))) | assumption, ?_⟩
    conv => lhs; whnf
    try rfl
  · exact fun _ => rfl
  simp only [List.nil_append, List.cons_append, Nat.reduceAdd]
  refine wpInv_det (by kernel_rfl) (by kernel_rfl) ?_
  apply Exists.intro
  refine ⟨?_, ?_, ?_⟩
  · intro U W hC hH
    simp only [HypsU, predsOf, Region.binds, List.filterMap_cons, List.filterMap_nil, if_true, List.nil_append, List.cons_append, List.getD_cons_zero, List.getD_cons_succ] at hH
    obtain ⟨⟨b, m, h0, hb, hm, hB⟩, h1, h2, h3, -⟩ := hH
    have hWs := hC.size
    have hTW : WidthW W := hTV.below hC
    have hmap : ∃ es clk, W.heap[m]? = some (.map es clk) := by
      obtain ⟨es, clk, h5, _⟩ := hB.map
      exact ⟨es, clk, h5⟩
    simp only [fillPuts, Act.put, List.setIfInBounds_toArray, List.set_cons_zero, List.set_cons_succ, Nat.reduceAdd]
    simp only [h0, h1, h2, h3]
    go_wp2_with fail
    refine (alloc_any _ _ _ _ b m _ hB hTW).mono ?_
    rintro e w' ⟨rfl, y1, rfl⟩
    rw [a1.out]
    go_wp2_with fail
    refine ⟨rfl, rfl, TB.of_bk hm hWs (hB.refl.bkd y1) hmap, ?_⟩
    conv => lhs; whnf
    try rfl
  · exact fun _ => rfl
  simp only [List.nil_append, List.cons_append, Nat.reduceAdd]
  refine ⟨fun U W => ∃ p, U 11 = .pointer (some ⟨p, 0, none⟩) ∧ V.heap.size ≤ p ∧ W.heap[p]? = some (.cells #[.int .i64 0, .int .i64 0, .int .i64 0, .int .i64 0, .int .i64 0] 22 (0, 0)), fun _ _ => rfl, ?_, ?_, ?_⟩
  · rintro U W W' hC hT ⟨p, h3, hp, hpc⟩
    exact ⟨p, h3, hp, hT.cells _ _ _ _ hpc⟩
  · intro U W hC hH
    simp only [fillPuts, Act.put, List.setIfInBounds_toArray, List.set_cons_zero, List.set_cons_succ, Nat.reduceAdd]
    go_wp2_with fail
    refine ⟨rfl, rfl, by exact TB.of_below hC.size (by (repeat' (first | (with_reducible exact Below.refl _ _) | (with_reducible assumption) | (with_reducible refine Below.alloc ?_ ?_ _) | (with_reducible refine below_grew ?_ ?_ _) | (with_reducible refine Below.setCell ?_ ?_ _) | (with_reducible refine Below.drew ?_) | (with_reducible refine below_drewN ?_ _) | omega | (simp; done) | (simp; omega)))), ⟨_, updU_eq _ _ _, hC.size, alloc_at _ _⟩, fun _ => ⟨_, rfl, Nat.le_refl _, by simp⟩⟩
  simp only [List.nil_append, List.cons_append, Nat.reduceAdd]
  simp only [List.nil_append, List.cons_append, Nat.reduceAdd, fillPuts, Act.put, List.setIfInBounds_toArray, List.set_cons_zero, List.set_cons_succ]
  rintro U W hC ⟨⟨b, m, h0, hb, hm, hB⟩, h1, h2, h3, h4, h5, h6, h7, h8, h9, h10, ⟨p, h11, hp, hpc⟩, -⟩ -
  simp only [h0, h1, h2, h3, h4, h5, h6, h7, h8, h9, h10, h11]
  clear hB h0 h1 h2 h3 h4 h5 h6 h7 h8 h9 h10 h11
  obtain ⟨k1, k2, k3⟩ := block_facts hpc
  have c0 := k1 0
  have c1 := k1 1
  have c2 := k1 2
  have c3 := k1 3
  have c4 := k1 4
  have f0 := k2 0
  have f1 := k2 1
  have f2 := k2 2
  have f3 := k2 3
  have f4 := k2 4
  clear k1 k2 hpc
  simp only [List.getElem?_toArray, List.getElem?_cons_zero, List.getElem?_cons_succ] at c0 c1 c2 c3 c4
  have hWs := hC.size
  have lB : B < W.heap.size := by omega
  have n3 : B ≠ p := by omega
  have n3' : p ≠ B := by omega
  obtain ⟨hc1, _⟩ := bcell hC
  have wa0 := (hc1 B 0 hVs).trans va0
  have wa1 := (hc1 B 1 hVs).trans va1
  have wa2 := (hc1 B 2 hVs).trans va2
  have wa3 := (hc1 B 3 hVs).trans va3
  have hBW := Lib.hid (show Below B w W from hV.trans (hC.mono (by omega)))
  clear hc1 va0 va1 va2 va3 hC
  go_wp2_with fail
  refine (refRight _ _ _).mono ?_
  rintro e w' ⟨rfl, hb1⟩; obtain ⟨x1, rfl⟩ := below_as_grew hb1; clear hb1
  by_cases hR : RightP s c
  · have hR' : decide (RightP s c) = true := decide_eq_true hR
    have hra := Lib.hid (fun w => refAlloc s c t bud hR w)
    rw [hR']
    rw [a1.out] at hra
    clear hR hR'
    go_wp2_with fail
    first | refine wp_region_grew_all2 (by kernel_rfl) (by kernel_rfl) ?_ | refine wp_region_grew_all (by kernel_rfl) (by kernel_rfl) ?_
    repeat (go_big_quiet_step (first | (go_at_call 30; exact Calls.grew_of (hra.out _))))
    refine wpQuiet_nil ?_
    rintro _ ⟨x, rfl⟩
    go_wp2
    go_ret
    refine ⟨rfl, ?_⟩
    rw [HBd.out]
    have hbase := hBW.out
    (repeat' (first | (with_reducible exact Below.refl _ _) | (with_reducible assumption) | (with_reducible refine Below.alloc ?_ ?_ _) | (with_reducible refine below_grew ?_ ?_ _) | (with_reducible refine Below.setCell ?_ ?_ _) | (with_reducible refine Below.drew ?_) | (with_reducible refine below_drewN ?_ _) | omega | (simp; done) | (simp; omega)))
  · have hR' : decide (RightP s c) = false := decide_eq_false hR
    have hz := allocF_wrong hR t bud
    rw [HL.out] at hz
    simp only [List.cons.injEq] at hz
    obtain ⟨rfl, rfl, rfl, rfl, rfl, -⟩ := hz
    rw [hR']
    clear hR hR'
    go_wp2
    go_ret
    refine ⟨rfl, ?_⟩
    rw [HBd.out]
    have hbase := hBW.out
    (repeat' (first | (with_reducible exact Below.refl _ _) | (with_reducible assumption) | (with_reducible refine Below.alloc ?_ ?_ _) | (with_reducible refine below_grew ?_ ?_ _) | (with_reducible refine Below.setCell ?_ ?_ _) | (with_reducible refine Below.drew ?_) | (with_reducible refine below_drewN ?_ _) | omega | (simp; done) | (simp; omega)))
end Go.Proofs.YtmcjbejccelagaaDoor
