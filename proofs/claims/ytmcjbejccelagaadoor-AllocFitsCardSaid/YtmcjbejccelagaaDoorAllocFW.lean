/-
  AllocFits, walked.
-/
import Derived.Test.YtmcjbejccelagaaDoorAllocF
import Derived.Test.YtmcjbejccelagaaDoorAllocMW
import Derived.Test.YtmcjbejccelagaaDoorCostRD
namespace Go
/-- At a call: what follows is shown of every world of which this is known. -/
theorem cut_call {P : Program} {f : FuncId} {args : Array Value} {w : World} {R : Ending → World → Prop} (F : World → Prop) (hF : F w) (h : ∀ W, F W → Calls P f args W R) : Calls P f args w R := h w hF
end Go
namespace Go.Proofs.YtmcjbejccelagaaDoor
open Go.RowKit Go.BigFrame Go.Vec Go.Cost
set_option linter.unusedSimpArgs false

set_option maxHeartbeats 2000000 in
set_option maxRecDepth 100000 in
theorem allocFits_any (s c t bud : Int) (w : World) (hT : WidthW w) : Calls Tryd.prog 9 #[.agg #[.int .i64 s, .int .i64 c, .int .i64 t, .int .i64 bud]] w fun e w' => e = .returned (.bool true) ∧ Below w.heap.size w w' := by
  have ha := Lib.hid (fun w hT => awake14 w hT)
  have HT := Lib.hid hT
  obtain ⟨l, hl0⟩ : ∃ l, l = allocF (s % 3) (c % 2 + 1) t bud := ⟨_, rfl⟩
  obtain ⟨hfit, htot0, htot1, hdone⟩ := allocF_fits (s % 3) (c % 2 + 1) t bud ⟨by omega, by omega, by omega, by omega⟩
  obtain ⟨l0, l1, l2, l3, l4, hl⟩ := allocF_five (s % 3) (c % 2 + 1) t bud
  have a1 := Lib.hid (show aggOf (allocF (s % 3) (c % 2 + 1) t bud) = .agg #[.int .i64 l0, .int .i64 l1, .int .i64 l2, .int .i64 l3, .int .i64 l4] by rw [hl]; rfl)
  rw [← hl0] at hfit htot0 htot1 hdone hl
  have HL := Lib.hid hl
  rw [hl] at htot0 htot1
  have HD := Lib.hid hdone
  have HF := Lib.hid hfit
  have hbd := bandsF_bd (s % 3) (c % 2 + 1)
  have hbN : bandsF (s % 3) (c % 2 + 1) = ((bandsF (s % 3) (c % 2 + 1)).toNat : Nat) := by omega
  have E0 := Lib.hid (show bestF (s % 3) (c % 2 + 1) t l = (bestTo (s % 3) (c % 2 + 1) t l (bandsF (s % 3) (c % 2 + 1)).toNat).1 from rfl)
  have htneg : decide (totalF (s % 3) (c % 2 + 1) [l0, l1, l2, l3, l4] < 0) = false := by rw [decide_eq_false_iff_not]; omega
  have htbig : decide (max bud 0 < totalF (s % 3) (c % 2 + 1) [l0, l1, l2, l3, l4]) = false := by rw [decide_eq_false_iff_not]; omega
  clear hT hl0 hl hdone hfit htot0 htot1
  go_enter Tryd.func9, Tryd.ntmps9
  go_wp2_with fail
  refine (ha.out _ (HT.out.below (by (repeat' (first | (with_reducible exact Below.refl _ _) | (with_reducible assumption) | (with_reducible refine Below.alloc ?_ ?_ _) | (with_reducible refine below_grew ?_ ?_ _) | (with_reducible refine Below.setCell ?_ ?_ _) | (with_reducible refine Below.drew ?_) | (with_reducible refine below_drewN ?_ _) | omega | (simp; done) | (simp; omega)))))).mono ?_
  rintro e w0 ⟨rfl, hb0⟩
  obtain ⟨x0, rfl⟩ := below_as_grew hb0
  clear hb0
  go_wp2_with fail
  refine cut_world (fun V => Below w.heap.size w V ∧ w.heap.size < V.heap.size ∧ V.cell? ⟨w.heap.size, 0, none⟩ = some (.int .i64 s) ∧ V.cell? ⟨w.heap.size, 1, none⟩ = some (.int .i64 c) ∧ V.cell? ⟨w.heap.size, 2, none⟩ = some (.int .i64 t) ∧ V.cell? ⟨w.heap.size, 3, none⟩ = some (.int .i64 bud)) ⟨by (repeat' (first | (with_reducible exact Below.refl _ _) | (with_reducible assumption) | (with_reducible refine Below.alloc ?_ ?_ _) | (with_reducible refine below_grew ?_ ?_ _) | (with_reducible refine Below.setCell ?_ ?_ _) | (with_reducible refine Below.drew ?_) | (with_reducible refine below_drewN ?_ _) | omega | (simp; done) | (simp; omega))), by simp; omega, by simp [go_sem], by simp [go_sem], by simp [go_sem], by simp [go_sem]⟩ ?_
  rintro V ⟨hV, hVs, va0, va1, va2, va3⟩
  have hTV : WidthW V := HT.out.below hV
  generalize hBd : w.heap.size = B at *
  have HBd := Lib.hid hBd
  clear hBd
  refine wp_region_inv [] (fun W => Below V.heap.size V W) (fun W W' => Below W.heap.size W W') 4 (by kernel_rfl) (by kernel_rfl) (by kernel_rfl) ((Below.refl _ _).drew) (fun W W' h h' => h.trans (h'.mono h.size)) (fun _ _ h => h.size) ?_
  simp only [List.take_succ_cons, List.take_zero, List.drop_succ_cons, List.drop_zero]
  refine ⟨fun U W => ∃ b m, U 0 = .pointer (some ⟨b, 0, none⟩) ∧ V.heap.size ≤ b ∧ V.heap.size ≤ m ∧ Book b m W, fun _ _ => rfl, ?_, ?_, ?_⟩
  · rintro U W W' hC hT ⟨b, m, h0, hb, hm, hB⟩
    exact ⟨b, m, h0, hb, hm, hB.inv (hB.refl.below (hT.mono (Nat.le_refl _)))⟩
  · intro U W hC hH
    simp only [fillPuts, Act.put, List.setIfInBounds_toArray, List.set_cons_zero, List.set_cons_succ]
    go_wp2_with fail
    refine (bookNew _).mono ?_
    rintro e w1 ⟨b, m, rfl, hb, hm, hB, hb1⟩
    go_wp2_with fail
    have := hC.size
    exact ⟨rfl, rfl, hb1, ⟨b, m, updU_eq _ _ _, by omega, by omega, hB⟩, fun h => by cases h⟩
  refine wpInv_det (by kernel_rfl) (by kernel_rfl) ?_
  apply Exists.intro
  refine ⟨?_, ?_, ?_⟩
  · intro U W hC hH
    obtain ⟨hc1, hf1⟩ := bcell hC
    simp only [HypsU, predsOf, Region.binds, List.filterMap_cons, List.filterMap_nil, if_true, List.nil_append, List.cons_append, List.getD_cons_zero, List.getD_cons_succ] at hH
    simp only [fillPuts, Act.put, List.setIfInBounds_toArray, List.set_cons_zero, List.set_cons_succ, Nat.reduceAdd]
    go_wp2_with fail
    refine ⟨rfl, rfl, by (repeat' (first | (with_reducible exact Below.refl _ _) | (with_reducible assumption) | (with_reducible refine Below.alloc ?_ ?_ _) | (with_reducible refine below_grew ?_ ?_ _) | (with_reducible refine Below.setCell ?_ ?_ _) | (with_reducible refine Below.drew ?_) | (with_reducible refine below_drewN ?_ _) | omega | (simp; done) | (simp; omega))), ?_⟩
    conv => lhs; whnf
    try rfl
  · exact fun _ => rfl
  simp only [List.nil_append, List.cons_append, Nat.reduceAdd]
  refine wpInv_det (by kernel_rfl) (by kernel_rfl) ?_
  apply Exists.intro
  refine ⟨?_, ?_, ?_⟩
  · intro U W hC hH
    obtain ⟨hc1, hf1⟩ := bcell hC
    simp only [HypsU, predsOf, Region.binds, List.filterMap_cons, List.filterMap_nil, if_true, List.nil_append, List.cons_append, List.getD_cons_zero, List.getD_cons_succ] at hH
    simp only [fillPuts, Act.put, List.setIfInBounds_toArray, List.set_cons_zero, List.set_cons_succ, Nat.reduceAdd]
    go_wp2_with fail; refine (lawRight_any _ _ _ _ _).mono ?_; rintro e w' ⟨rfl, hb1⟩; obtain ⟨x1, rfl⟩ := below_as_grew hb1; clear hb1; go_wp2_with fail
    refine ⟨rfl, rfl, by (repeat' (first | (with_reducible exact Below.refl _ _) | (with_reducible assumption) | (with_reducible refine Below.alloc ?_ ?_ _) | (with_reducible refine below_grew ?_ ?_ _) | (with_reducible refine Below.setCell ?_ ?_ _) | (with_reducible refine Below.drew ?_) | (with_reducible refine below_drewN ?_ _) | omega | (simp; done) | (simp; omega))), ?_⟩
    conv => lhs; whnf
    try rfl
  · exact fun _ => rfl
  simp only [List.nil_append, List.cons_append, Nat.reduceAdd]
  refine ⟨fun U W => ∃ p, U 3 = .pointer (some ⟨p, 0, none⟩) ∧ V.heap.size ≤ p ∧ W.heap[p]? = some (.cells #[.int .i64 0, .int .i64 0] 33 (0, 0)), fun _ _ => rfl, ?_, ?_, ?_⟩
  · rintro U W W' hC hT ⟨p, h3, hp, hpc⟩
    exact ⟨p, h3, hp, (hT.block p (block_facts hpc).2.2).trans hpc⟩
  · intro U W hC hH
    simp only [fillPuts, Act.put, List.setIfInBounds_toArray, List.set_cons_zero, List.set_cons_succ, Nat.reduceAdd]
    go_wp2_with fail
    refine ⟨rfl, rfl, by (repeat' (first | (with_reducible exact Below.refl _ _) | (with_reducible assumption) | (with_reducible refine Below.alloc ?_ ?_ _) | (with_reducible refine below_grew ?_ ?_ _) | (with_reducible refine Below.setCell ?_ ?_ _) | (with_reducible refine Below.drew ?_) | (with_reducible refine below_drewN ?_ _) | omega | (simp; done) | (simp; omega))), ⟨_, updU_eq _ _ _, hC.size, alloc_at _ _⟩, fun _ => ⟨_, rfl, Nat.le_refl _, by simp⟩⟩
  simp only [List.nil_append, List.cons_append, Nat.reduceAdd]
  simp only [List.nil_append, List.cons_append, Nat.reduceAdd, fillPuts, Act.put, List.setIfInBounds_toArray, List.set_cons_zero, List.set_cons_succ]
  rintro U W hC ⟨⟨b, m, h0, hb, hm, hB⟩, h1, h2, ⟨p, h3, hp, hpc⟩, -⟩ -
  simp only [h0, h1, h2, h3]
  have n1 : p ≠ b := fun h => by
    subst h
    rw [hB.book] at hpc
    simp at hpc
  have n2 : p ≠ m := fun h => by
    subst h
    obtain ⟨es, clk, h5, _⟩ := hB.map
    rw [h5] at hpc
    cases hpc
  obtain ⟨k1, k2, k3⟩ := block_facts hpc
  have c0 := k1 0
  have c1 := k1 1
  have f0 := k2 0
  have f1 := k2 1
  have lm := hB.lt_m
  have lb := hB.lt_b
  clear k1 k2 hpc
  simp only [List.getElem?_toArray, List.getElem?_cons_zero, List.getElem?_cons_succ] at c0 c1
  have e2 : W.cell? ⟨B, 2, none⟩ = some (.int .i64 t) := (hC.cell (p := ⟨B, 2, none⟩) hVs).trans va2
  have e3 : W.cell? ⟨B, 3, none⟩ = some (.int .i64 bud) := (hC.cell (p := ⟨B, 3, none⟩) hVs).trans va3
  have n3 : B ≠ p := by omega
  have n3' := n3.symm
  have hsz := hC.size
  have lB : B < W.heap.size := by omega
  go_wp2_with fail
  refine cut_call (fun X => Below V.heap.size V X ∧ Book b m X ∧ W.heap.size ≤ X.heap.size ∧ X.cell? ⟨B, 2, none⟩ = some (.int .i64 t) ∧ X.cell? ⟨B, 3, none⟩ = some (.int .i64 bud) ∧ X.cell? ⟨p, 0, none⟩ = some (.int .i64 (s % 3)) ∧ X.cell? ⟨p, 1, none⟩ = some (.int .i64 (c % 2 + 1))) ⟨?_, ?_, ?_, ?_, ?_, ?_, ?_⟩ ?_
  · exact (hC.setCell (by simpa using hp) _).setCell (by simpa using hp) _
  · exact (hB.setCell _ _ n1 n2).setCell _ _ n1 n2
  · simp
  · simp [go_sem, n3, n3', e2]
  · simp [go_sem, n3, n3', e3]
  · simp [go_sem, c0, c1, k3]
  · simp [go_sem, c0, c1, k3]
  clear e2 e3 c0 c1 f0 f1 hB h0 h1 h2 h3
  rintro X ⟨hX, hBX, hWX, e2, e3, q0, q1⟩
  have lp : p < X.heap.size := by omega
  have lB : B < X.heap.size := by omega
  have nB : m ≠ B := by omega
  have n2s : m ≠ p := n2.symm
  have hTX : WidthW X := hTV.below hX
  have hlm := hBX.lt_m
  have d0 : m ≠ X.heap.size := by omega
  refine (alloc_any _ _ _ _ b m _ hBX hTX).mono ?_
  rintro e w' ⟨rfl, y1, rfl⟩
  rw [a1.out]
  go_wp2_with fail
  refine (total_any _ _ _ _ _ _ _ b m _ (hBX.inv ?_) (hTX.inv hBX ?_)).mono ?_
  · (repeat' (first | (with_reducible assumption) | (with_reducible exact BookOK.refl ‹_›) | (with_reducible refine BkInv.alloc ?_ _) | (with_reducible refine BkInv.grew ?_ _) | (with_reducible refine BkInv.bkd ?_ _) | (with_reducible refine BkInv.setCell ?_ ?_ _) | (with_reducible refine BkInv.drew ?_) | (with_reducible refine BkInv.drewN ?_ _) | omega | (simp; done) | (simp; omega)))
  · (repeat' (first | (with_reducible assumption) | (with_reducible exact BookOK.refl ‹_›) | (with_reducible refine BkInv.alloc ?_ _) | (with_reducible refine BkInv.grew ?_ _) | (with_reducible refine BkInv.bkd ?_ _) | (with_reducible refine BkInv.setCell ?_ ?_ _) | (with_reducible refine BkInv.drew ?_) | (with_reducible refine BkInv.drewN ?_ _) | omega | (simp; done) | (simp; omega)))
  rintro e w' ⟨rfl, y2, rfl⟩
  go_wp2_with fail
  obtain ⟨K, hK⟩ : ∃ K, K = X.heap.size + y1.gr.objs.size := ⟨_, rfl⟩
  refine cut_world (fun Z => BkInv m X Z ∧ Z.heap[X.heap.size + y1.gr.objs.size]? = some (.cells #[.int .i64 l0, .int .i64 l1, .int .i64 l2, .int .i64 l3, .int .i64 l4] 22 (0, 0))) ⟨?_, ?_⟩ ?_
  · have hX0 := hBX.refl
    (repeat' (first | (with_reducible assumption) | (with_reducible exact BookOK.refl ‹_›) | (with_reducible refine BkInv.alloc ?_ _) | (with_reducible refine BkInv.grew ?_ _) | (with_reducible refine BkInv.bkd ?_ _) | (with_reducible refine BkInv.setCell ?_ ?_ _) | (with_reducible refine BkInv.drew ?_) | (with_reducible refine BkInv.drewN ?_ _) | omega | (simp; done) | (simp; omega)))
  · have e : X.heap.size + y1.gr.objs.size = (X.bkd m y1).heap.size := by simp
    rw [e, World.bkd_block _ _ _ _ (by simp) (by simp; omega)]
    exact alloc_at _ _
  rintro Z ⟨hZ, hZK⟩
  rw [← hK] at hZK ⊢
  have hKX : X.heap.size ≤ K := by omega
  have hmK : m ≠ K := by omega
  have hBZ := hBX.inv hZ
  have hTZ : WidthW Z := hTX.inv hBX hZ
  obtain ⟨hc1, _⟩ := bkcell hZ
  have z0 := (hc1 B 2 lB nB).trans e2
  have z1 := (hc1 B 3 lB nB).trans e3
  have z2 := (hc1 p 0 lp n2s).trans q0
  have z3 := (hc1 p 1 lp n2s).trans q1
  have hXZ := hZ.size
  have lB2 : B < Z.heap.size := by omega
  have lp2 : p < Z.heap.size := by omega
  obtain ⟨kc, kf, lK⟩ := block_facts hZK
  have hx : ∀ n, n < 5 → Z.cell? ⟨K, n, none⟩ = some (.int .i64 ([l0, l1, l2, l3, l4].getD n 0)) := fun n hn => by
    rw [kc n]
    have : n = 0 ∨ n = 1 ∨ n = 2 ∨ n = 3 ∨ n = 4 := by omega
    rcases this with rfl | rfl | rfl | rfl | rfl <;> rfl
  have HX := Lib.hid hx
  have HK := Lib.hid hZK
  have HKF := Lib.hid kf
  have hk : ∀ n, n < 5 → 0 ≤ [l0, l1, l2, l3, l4].getD n 0 ∧ [l0, l1, l2, l3, l4].getD n 0 ≤ 32 := fun n hn => by
    obtain ⟨h0, h1⟩ := HF.out.2 n hn
    rw [HL.out] at h0 h1
    split at h1
    · have := capF_bd (widthF (s % 3) (c % 2 + 1) n); omega
    · omega
  have HKB := Lib.hid hk
  have hbands := Lib.hid (fun y => modeBands (s % 3) (c % 2 + 1) (Z.grew y))
  have hwid := Lib.hid (fun n y => modeWidth (s % 3) (c % 2 + 1) n (Z.grew y) (hTZ.below (by (repeat' (first | (with_reducible exact Below.refl _ _) | (with_reducible assumption) | (with_reducible refine Below.alloc ?_ ?_ _) | (with_reducible refine below_grew ?_ ?_ _) | (with_reducible refine Below.setCell ?_ ?_ _) | (with_reducible refine Below.drew ?_) | (with_reducible refine below_drewN ?_ _) | omega | (simp; done) | (simp; omega))))))
  have hslo := Lib.hid (fun n y => slope_any (s % 3) (c % 2 + 1) t n (Z.grew y) (hTZ.below (by (repeat' (first | (with_reducible exact Below.refl _ _) | (with_reducible assumption) | (with_reducible refine Below.alloc ?_ ?_ _) | (with_reducible refine below_grew ?_ ?_ _) | (with_reducible refine Below.setCell ?_ ?_ _) | (with_reducible refine Below.drew ?_) | (with_reducible refine below_drewN ?_ _) | omega | (simp; done) | (simp; omega))))))
  rw [HL.out] at E0 HD
  have hwZ := Lib.hid (show Below B w Z from (hV.trans (hX.mono (by omega))).trans (below_of_bk hZ (by omega) (by omega)))
  have hBs : B ≤ Z.heap.size := by omega
  have HE3 := Lib.hid e3
  have HQ0 := Lib.hid q0
  have HQ1 := Lib.hid q1
  clear hZK kc kf hx hk hc1 e2 e3 q0 q1 HL HF hK
  generalize hnb : bandsF (s % 3) (c % 2 + 1) = nb at *
  generalize nb.toNat = NB at *
  have Hnb := Lib.hid hnb
  clear hnb
  have hNB : NB ≤ 5 := by omega
  subst hbN
  generalize hSS : s % 3 = ss at *
  generalize hCC : c % 2 + 1 = cc at *
  clear hSS hCC
  go_loopw [7, 8, 9] (fun out least cnt wr => ∃ n : Nat, n ≤ NB ∧ cnt = .int .i64 n ∧ out = .int .i64 (bestTo ss cc t [l0, l1, l2, l3, l4] n).1 ∧ least = .int .i64 (bestTo ss cc t [l0, l1, l2, l3, l4] n).2 ∧ ∃ y, wr = Z.grew y) (fun _ _ cnt _ => NB - (intOf cnt).toNat)
  case atStart => exact ⟨0, by omega, rfl, rfl, rfl, World.as_grew _⟩
  case round =>
    obtain ⟨n, hn, rfl, rfl, rfl, y, rfl⟩ := hrel
    by_cases hlt : n < NB
    · have hlt' : (n : Int) < (NB : Int) := by omega
      have hx := HX.out n (by omega)
      have hk := HKB.out n (by omega)
      have hp := bestTo_bd ss cc t [l0, l1, l2, l3, l4] n
      have hn5 : (n : Int) < 5 := by omega
      have hn0 : (0 : Int) ≤ n := by omega
      have hsl := slopeF_bd ss cc t n
      have hlev := level_bd _ _ hk hsl
      by_cases hc : capF (widthF ss cc n) ≤ [l0, l1, l2, l3, l4].getD n 0
      · have E1 := Lib.hid (show bestTo ss cc t [l0, l1, l2, l3, l4] (n + 1) = bestTo ss cc t [l0, l1, l2, l3, l4] n from by simp only [bestTo, if_pos hc])
        have D1 : decide ([l0, l1, l2, l3, l4].getD n 0 < capF (widthF ss cc n)) = false := by rw [decide_eq_false_iff_not]; omega
        generalize [l0, l1, l2, l3, l4].getD n 0 = kn at *
        go_wp2_with fail
        refine (hbands.out _).mono ?_
        rintro e w' ⟨rfl, hb1⟩; obtain ⟨x1, rfl⟩ := below_as_grew hb1; clear hb1
        go_wp2_with fail
        first | refine wp_region_grew_all2 (by kernel_rfl) (by kernel_rfl) ?_ | refine wp_region_grew_all (by kernel_rfl) (by kernel_rfl) ?_
        repeat (go_big_quiet_step (first | (go_at_call 32; exact Calls.grew_of (hslo.out _ _))))
        refine wpQuiet_nil ?_
        rintro _ ⟨x, rfl⟩
        go_wp2_with fail
        first | refine wp_region_grew_all2 (by kernel_rfl) (by kernel_rfl) ?_ | refine wp_region_grew_all (by kernel_rfl) (by kernel_rfl) ?_
        repeat (go_big_quiet_step (first | (go_at_call 39; exact Calls.grew_of (hwid.out _ _)) | (go_at_call 38; exact Calls.grew_of (refCap _ _))))
        refine wpQuiet_nil ?_
        rintro _ ⟨x, rfl⟩
        go_wp2
        go_roundw
        case rel => exact ⟨n + 1, by omega, by go_num, by rw [E1.out], by rw [E1.out], _, rfl⟩
        case measure => simp [intOf]; omega
      · have D1 : decide ([l0, l1, l2, l3, l4].getD n 0 < capF (widthF ss cc n)) = true := by rw [decide_eq_true_eq]; omega
        by_cases hb1 : (bestTo ss cc t [l0, l1, l2, l3, l4] n).1 < 0
        · have E1 := Lib.hid (show bestTo ss cc t [l0, l1, l2, l3, l4] (n + 1) = ((n : Int), ([l0, l1, l2, l3, l4].getD n 0 + 1) * slopeF ss cc t n) from by simp only [bestTo, if_neg hc, if_pos (Or.inl hb1)])
          generalize [l0, l1, l2, l3, l4].getD n 0 = kn at *
          go_wp2_with fail
          refine (hbands.out _).mono ?_
          rintro e w' ⟨rfl, hb1⟩; obtain ⟨x1, rfl⟩ := below_as_grew hb1; clear hb1
          go_wp2_with fail
          first | refine wp_region_grew_all2 (by kernel_rfl) (by kernel_rfl) ?_ | refine wp_region_grew_all (by kernel_rfl) (by kernel_rfl) ?_
          repeat (go_big_quiet_step (first | (go_at_call 32; exact Calls.grew_of (hslo.out _ _))))
          refine wpQuiet_nil ?_
          rintro _ ⟨x, rfl⟩
          go_wp2_with fail
          first | refine wp_region_grew_all2 (by kernel_rfl) (by kernel_rfl) ?_ | refine wp_region_grew_all (by kernel_rfl) (by kernel_rfl) ?_
          repeat (go_big_quiet_step (first | (go_at_call 39; exact Calls.grew_of (hwid.out _ _)) | (go_at_call 38; exact Calls.grew_of (refCap _ _))))
          refine wpQuiet_nil ?_
          rintro _ ⟨x, rfl⟩
          go_wp2
          go_roundw
          case rel => exact ⟨n + 1, by omega, by go_num, by rw [E1.out], by rw [E1.out], _, rfl⟩
          case measure => simp [intOf]; omega
        · have D2 : decide ((bestTo ss cc t [l0, l1, l2, l3, l4] n).1 < 0) = false := by rw [decide_eq_false_iff_not]; exact hb1
          by_cases hb2 : ([l0, l1, l2, l3, l4].getD n 0 + 1) * slopeF ss cc t n < (bestTo ss cc t [l0, l1, l2, l3, l4] n).2
          · have E1 := Lib.hid (show bestTo ss cc t [l0, l1, l2, l3, l4] (n + 1) = ((n : Int), ([l0, l1, l2, l3, l4].getD n 0 + 1) * slopeF ss cc t n) from by simp only [bestTo, if_neg hc, if_pos (Or.inr hb2)])
            have D3 : decide (([l0, l1, l2, l3, l4].getD n 0 + 1) * slopeF ss cc t n < (bestTo ss cc t [l0, l1, l2, l3, l4] n).2) = true := by rw [decide_eq_true_eq]; exact hb2
            generalize [l0, l1, l2, l3, l4].getD n 0 = kn at *
            go_wp2_with fail
            refine (hbands.out _).mono ?_
            rintro e w' ⟨rfl, hb1⟩; obtain ⟨x1, rfl⟩ := below_as_grew hb1; clear hb1
            go_wp2_with fail
            first | refine wp_region_grew_all2 (by kernel_rfl) (by kernel_rfl) ?_ | refine wp_region_grew_all (by kernel_rfl) (by kernel_rfl) ?_
            repeat (go_big_quiet_step (first | (go_at_call 32; exact Calls.grew_of (hslo.out _ _))))
            refine wpQuiet_nil ?_
            rintro _ ⟨x, rfl⟩
            go_wp2_with fail
            first | refine wp_region_grew_all2 (by kernel_rfl) (by kernel_rfl) ?_ | refine wp_region_grew_all (by kernel_rfl) (by kernel_rfl) ?_
            repeat (go_big_quiet_step (first | (go_at_call 39; exact Calls.grew_of (hwid.out _ _)) | (go_at_call 38; exact Calls.grew_of (refCap _ _))))
            refine wpQuiet_nil ?_
            rintro _ ⟨x, rfl⟩
            go_wp2
            go_roundw
            case rel => exact ⟨n + 1, by omega, by go_num, by rw [E1.out], by rw [E1.out], _, rfl⟩
            case measure => simp [intOf]; omega
          · have E1 := Lib.hid (show bestTo ss cc t [l0, l1, l2, l3, l4] (n + 1) = bestTo ss cc t [l0, l1, l2, l3, l4] n from by simp only [bestTo, if_neg hc, if_neg (not_or.2 ⟨hb1, hb2⟩)])
            have D3 : decide (([l0, l1, l2, l3, l4].getD n 0 + 1) * slopeF ss cc t n < (bestTo ss cc t [l0, l1, l2, l3, l4] n).2) = false := by rw [decide_eq_false_iff_not]; exact hb2
            generalize [l0, l1, l2, l3, l4].getD n 0 = kn at *
            go_wp2_with fail
            refine (hbands.out _).mono ?_
            rintro e w' ⟨rfl, hb1⟩; obtain ⟨x1, rfl⟩ := below_as_grew hb1; clear hb1
            go_wp2_with fail
            first | refine wp_region_grew_all2 (by kernel_rfl) (by kernel_rfl) ?_ | refine wp_region_grew_all (by kernel_rfl) (by kernel_rfl) ?_
            repeat (go_big_quiet_step (first | (go_at_call 32; exact Calls.grew_of (hslo.out _ _))))
            refine wpQuiet_nil ?_
            rintro _ ⟨x, rfl⟩
            go_wp2_with fail
            first | refine wp_region_grew_all2 (by kernel_rfl) (by kernel_rfl) ?_ | refine wp_region_grew_all (by kernel_rfl) (by kernel_rfl) ?_
            repeat (go_big_quiet_step (first | (go_at_call 39; exact Calls.grew_of (hwid.out _ _)) | (go_at_call 38; exact Calls.grew_of (refCap _ _))))
            refine wpQuiet_nil ?_
            rintro _ ⟨x, rfl⟩
            go_wp2
            go_roundw
            case rel => exact ⟨n + 1, by omega, by go_num, by rw [E1.out], by rw [E1.out], _, rfl⟩
            case measure => simp [intOf]; omega
    · have hlt' : ¬(n : Int) < (NB : Int) := by omega
      obtain rfl : n = NB := by omega
      rw [← E0.out]
      go_wp2_with fail
      refine (hbands.out _).mono ?_
      rintro e w' ⟨rfl, hb1⟩; obtain ⟨x1, rfl⟩ := below_as_grew hb1; clear hb1
      by_cases hneg : bestF ss cc t [l0, l1, l2, l3, l4] < 0
      · go_wp2
        go_ret
        exact ⟨rfl, by rw [HBd.out]; exact below_grew hwZ.out hBs _⟩
      · have hgt := HD.out.resolve_left hneg
        have hlt5 := bestF_lt ss cc t [l0, l1, l2, l3, l4]
        rw [Hnb.out] at hlt5
        clear HD
        generalize bestF ss cc t [l0, l1, l2, l3, l4] = bf at *
        obtain ⟨β, rfl⟩ := Int.eq_ofNat_of_zero_le (show 0 ≤ bf by omega)
        have hβ : β < 5 := by omega
        have hβ0 : (0 : Int) ≤ β := by omega
        have hβ5 : (β : Int) < 5 := by omega
        simp only [Int.toNat_natCast] at hgt
        have hset : ∀ j, j < 5 → ([l0, l1, l2, l3, l4].set β ([l0, l1, l2, l3, l4].getD β 0 + 1)).getD j 0 = if j = β then [l0, l1, l2, l3, l4].getD β 0 + 1 else [l0, l1, l2, l3, l4].getD j 0 := fun j hj => set5 rfl β hβ _ j hj
        obtain ⟨r0, r1, r2, r3, r4, hr⟩ : ∃ r0 r1 r2 r3 r4, [l0, l1, l2, l3, l4].set β ([l0, l1, l2, l3, l4].getD β 0 + 1) = [r0, r1, r2, r3, r4] := by
          have h5 : ([l0, l1, l2, l3, l4].set β ([l0, l1, l2, l3, l4].getD β 0 + 1)).length = 5 := by simp
          generalize [l0, l1, l2, l3, l4].set β ([l0, l1, l2, l3, l4].getD β 0 + 1) = r at *
          match r, h5 with
          | [a, b, c, d, e], _ => exact ⟨a, b, c, d, e, rfl⟩
        rw [hr] at hset hgt
        have D9 := Lib.hid (show decide (bud < totalF ss cc [r0, r1, r2, r3, r4]) = true by rw [decide_eq_true_eq]; exact hgt)
        have hxb := HX.out β hβ
        have hkb := HKB.out β hβ
        have f0 := HKF.out β
        have HS := Lib.hid hset
        obtain ⟨hkb0, hkb1⟩ := hkb
        generalize hkk : [l0, l1, l2, l3, l4].getD β 0 = kb at *
        have Hkk := Lib.hid hkk
        clear hgt hneg E0 hlt5 HKB hr hset hkk hwid hslo htneg htbig a1 HK HKF hbands va0 va1 va2 va3 HT ha
        go_wp2_with fail
        have hZs := (hZ.setCell (p := ⟨K, β, none⟩) (by simpa using hKX) (.int .i64 (kb + 1)))
        refine cut_world (fun Y => BkInv m X Y ∧ K < Y.heap.size ∧ ∀ j, j < 5 → Y.cell? ⟨K, j, none⟩ = some (.int .i64 ([r0, r1, r2, r3, r4].getD j 0))) ⟨hZs.grew _, by simp; omega, ?_⟩ ?_
        · intro j hj
          rw [HS.out j hj]
          by_cases e : j = β
          · subst e
            rw [if_pos rfl]
            simp [go_sem, lK, hxb]
          · have e' : ¬ β = j := fun h => e h.symm
            rw [if_neg e, ← Hkk.out]
            have := HX.out j hj
            simp [go_sem, lK, this, e, e']
        rintro Y ⟨hY, lKY, hYc⟩
        clear f0 hxb
        obtain ⟨hc1, _⟩ := bkcell hY
        have z1 := (hc1 B 3 lB nB).trans HE3.out
        have z2 := (hc1 p 0 lp n2s).trans HQ0.out
        have z3 := (hc1 p 1 lp n2s).trans HQ1.out
        have x0 := hYc 0 (by omega)
        have x1' := hYc 1 (by omega)
        have x2 := hYc 2 (by omega)
        have x3 := hYc 3 (by omega)
        have x4 := hYc 4 (by omega)
        simp only [List.getD_cons_zero, List.getD_cons_succ] at x0 x1' x2 x3 x4
        have hBY := hBX.inv hY
        have hTY : WidthW Y := hTX.inv hBX hY
        have hYs := hY.size
        have lB3 : B < Y.heap.size := by omega
        have lp3 : p < Y.heap.size := by omega
        have hBY' : Below B w Y := (hV.trans (hX.mono (by omega))).trans (below_of_bk hY (by omega) (by omega))
        have HBY := Lib.hid hBY'
        obtain ⟨y3, hy3⟩ := bkInv_as hBY.refl
        have htl := Lib.hid (fun x => (total_any ss cc r0 r1 r2 r3 r4 b m (Y.bkd m x) (hBY.inv (hBY.refl.bkd x)) (hTY.inv hBY (hBY.refl.bkd x))).bkd_of hBY.lt_m)
        clear hc1 hYc HX hZ hZs hX hV hTX hTV hTZ hBZ hBX hBY'
        have HBYs := Lib.hid (show B ≤ Y.heap.size by omega)
        refine cut_world (fun W => ∃ x, W = Y.bkd m x) ⟨y3, hy3⟩ ?_
        clear hy3
        rintro _ ⟨x7, rfl⟩
        refine wp_region_bkd_all (by kernel_rfl) (by kernel_rfl) ?_
        repeat (go_big_quiet_step (first | (go_at_call 31; exact htl.out _)))
        refine wpQuiet_nil ?_
        rintro _ ⟨x, rfl⟩
        rw [D9.out]
        go_wp2
        go_ret
        exact ⟨rfl, by rw [HBd.out]; exact below_bkd HBY.out HBYs.out (by omega) _⟩
end Go.Proofs.YtmcjbejccelagaaDoor
