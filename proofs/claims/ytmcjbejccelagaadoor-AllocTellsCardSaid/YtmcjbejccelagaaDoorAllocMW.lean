/-
  AllocMore, walked.
-/
import Derived.Test.YtmcjbejccelagaaDoorAllocM
import Derived.Test.YtmcjbejccelagaaDoorAllocCW
import Derived.Test.YtmcjbejccelagaaDoorRgn
namespace Go
open Go.RowKit
theorem BkInv.trans {m : Nat} {a b c : World} (h : BkInv m a b) (k : BkInv m b c) : BkInv m a c :=
  ⟨k.os.trans h.os, k.tape.trans h.tape, k.output.trans h.output, Nat.le_trans h.size k.size, h.lt, k.map, fun i hi hne => (k.block i (Nat.lt_of_lt_of_le hi h.size) hne).trans (h.block i hi hne)⟩
theorem BkInv.refl2 {m : Nat} {a b : World} (h : BkInv m a b) : BkInv m b b :=
  ⟨rfl, rfl, rfl, Nat.le_refl _, Nat.lt_of_lt_of_le h.lt h.size, h.map, fun _ _ _ => rfl⟩
theorem bkcell {m : Nat} {W w1 : World} (hb : BkInv m W w1) : (∀ b o, b < W.heap.size → m ≠ b → w1.cell? ⟨b, o, none⟩ = W.cell? ⟨b, o, none⟩) ∧ (∀ b o, b < W.heap.size → m ≠ b → w1.frozen? ⟨b, o, none⟩ = W.frozen? ⟨b, o, none⟩) :=
  ⟨fun b o h hne => by unfold World.cell?; rw [hb.block b h hne], fun b o h hne => by unfold World.frozen?; rw [hb.block b h hne]⟩
theorem setCell_block (w : World) (p : Addr) (v : Value) (k : Nat) (h : p.block ≠ k) : (w.setCell p v).heap[k]? = w.heap[k]? := by
  show (w.heap.modify p.block _)[k]? = _
  rw [Array.getElem?_modify, if_neg h]
theorem BookOK.setCell {T : TypeId} {b m : Nat} {w : World} (h : BookOK T b m w) (p : Addr) (v : Value) (h1 : p.block ≠ b) (h2 : p.block ≠ m) : BookOK T b m (w.setCell p v) := by
  obtain ⟨es, clk, h3, h4⟩ := h.map
  exact ⟨by rw [setCell_block _ _ _ _ h1]; exact h.book, h.ne, es, clk, by rw [setCell_block _ _ _ _ h2]; exact h3, h4⟩
theorem below_of_bk {B m : Nat} {a w : World} (h : BkInv m a w) (hB : B ≤ a.heap.size) (hm : B ≤ m) : Below B a w :=
  ⟨h.os, h.tape, h.output, h.size, fun k hk => h.block k (by omega) (by omega)⟩
/-- A block whose cells are all known. -/
theorem block_facts {w : World} {p : Nat} {cs : Array Value} {T : TypeId} (h : w.heap[p]? = some (.cells cs T (0, 0))) : (∀ i, w.cell? ⟨p, i, none⟩ = cs[i]?) ∧ (∀ i, w.frozen? ⟨p, i, none⟩ = false) ∧ p < w.heap.size :=
  ⟨fun i => by simp [World.cell?, h], fun i => by simp [World.frozen?, h], (Array.getElem?_eq_some_iff.1 h).1⟩
end Go
namespace Go.Proofs.YtmcjbejccelagaaDoor
open Go.RowKit Go.BigFrame Go.Vec Go.Cost
set_option linter.unusedSimpArgs false

theorem lawRight_any (s c t bud : Int) (w : World) : Calls Tryd.prog 36 #[.agg #[.int .i64 s, .int .i64 c, .int .i64 t, .int .i64 bud]] w fun e w' => e = .returned (.agg #[.int .i64 (s % 3), .int .i64 (c % 2 + 1)]) ∧ Below w.heap.size w w' := by
  have e1 : (wrap64 (s.tmod 3 + 3)).tmod 3 = s % 3 := by
    have b1 := Int.lt_tmod_of_pos s (show (0 : Int) < 3 by decide)
    have b2 := Int.tmod_lt_of_pos s (show (0 : Int) < 3 by decide)
    have := Int.tmod_def s 3
    rw [IntWalk.wrap64_in _ (by omega), Int.tmod_eq_emod_of_nonneg (by omega)]
    omega
  have e2 : wrap64 ((wrap64 (c.tmod 2 + 2)).tmod 2 + 1) = c % 2 + 1 := by
    have b1 := Int.lt_tmod_of_pos c (show (0 : Int) < 2 by decide)
    have b2 := Int.tmod_lt_of_pos c (show (0 : Int) < 2 by decide)
    have := Int.tmod_def c 2
    rw [IntWalk.wrap64_in (c.tmod 2 + 2) (by omega), Int.tmod_eq_emod_of_nonneg (by omega), IntWalk.wrap64_in _ (by omega)]
    omega
  have E1 := Lib.hid e1
  have E2 := Lib.hid e2
  clear e1 e2
  go_enter Tryd.func36, Tryd.ntmps36
  go_wp2
  refine bodyPost_ret (v := _) (by simp [results, Tryd.results36, go_sem]; rfl) rfl ⟨?_, ?_⟩
  · rw [E1.out, E2.out]
  · (repeat' (first | (with_reducible exact Below.refl _ _) | (with_reducible assumption) | (with_reducible refine Below.alloc ?_ ?_ _) | (with_reducible refine below_grew ?_ ?_ _) | (with_reducible refine Below.setCell ?_ ?_ _) | (with_reducible refine Below.drew ?_) | (with_reducible refine below_drewN ?_ _) | omega | (simp; done) | (simp; omega)))

set_option maxHeartbeats 1000000 in
set_option maxRecDepth 100000 in
theorem allocMore_walk (s c t bud n : Int) (hb : bud ≤ 1099511627776) (h64 : -9223372036854775808 ≤ bud) (hn : 0 ≤ n ∧ n ≤ 65535) (w : World) (hT : WidthW w) : Calls Tryd.prog 10 #[.agg #[.int .i64 s, .int .i64 c, .int .i64 t, .int .i64 bud], .int .u16 n] w fun e w' => e = .returned (.bool true) ∧ Below w.heap.size w w' := by
  have ha := Lib.hid (fun w hT => awake14 w hT)
  have HT := Lib.hid hT
  obtain ⟨l0, l1, l2, l3, l4, hl⟩ := allocF_five (s % 3) (c % 2 + 1) t bud
  obtain ⟨r0, r1, r2, r3, r4, hr⟩ := allocF_five (s % 3) (c % 2 + 1) t (bud + n)
  have hle := fun i => allocF_more (s % 3) (c % 2 + 1) t bud (bud + n) (by omega) i
  rw [hl, hr] at hle
  have a1 := Lib.hid (show aggOf (allocF (s % 3) (c % 2 + 1) t bud) = .agg #[.int .i64 l0, .int .i64 l1, .int .i64 l2, .int .i64 l3, .int .i64 l4] by rw [hl]; rfl)
  have a2 := Lib.hid (show aggOf (allocF (s % 3) (c % 2 + 1) t (bud + n)) = .agg #[.int .i64 r0, .int .i64 r1, .int .i64 r2, .int .i64 r3, .int .i64 r4] by rw [hr]; rfl)
  have HL := Lib.hid hle
  obtain ⟨hn0, hn1⟩ := hn
  clear hT hl hr hle
  go_enter Tryd.func10, Tryd.ntmps10
  go_wp2_with fail
  refine (ha.out _ (HT.out.below (by (repeat' (first | (with_reducible exact Below.refl _ _) | (with_reducible assumption) | (with_reducible refine Below.alloc ?_ ?_ _) | (with_reducible refine below_grew ?_ ?_ _) | (with_reducible refine Below.setCell ?_ ?_ _) | (with_reducible refine Below.drew ?_) | (with_reducible refine below_drewN ?_ _) | omega | (simp; done) | (simp; omega)))))).mono ?_
  rintro e w0 ⟨rfl, hb0⟩
  obtain ⟨x0, rfl⟩ := below_as_grew hb0
  clear hb0
  go_wp2_with fail
  refine cut_world (fun V => Below w.heap.size w V ∧ w.heap.size < V.heap.size ∧ V.cell? ⟨w.heap.size, 0, none⟩ = some (.int .i64 s) ∧ V.cell? ⟨w.heap.size, 1, none⟩ = some (.int .i64 c) ∧ V.cell? ⟨w.heap.size, 2, none⟩ = some (.int .i64 t) ∧ V.cell? ⟨w.heap.size, 3, none⟩ = some (.int .i64 bud)) ⟨by (repeat' (first | (with_reducible exact Below.refl _ _) | (with_reducible assumption) | (with_reducible refine Below.alloc ?_ ?_ _) | (with_reducible refine below_grew ?_ ?_ _) | (with_reducible refine Below.setCell ?_ ?_ _) | (with_reducible refine Below.drew ?_) | (with_reducible refine below_drewN ?_ _) | omega | (simp; done) | (simp; omega))), by simp; omega, by simp [go_sem], by simp [go_sem], by simp [go_sem], by simp [go_sem]⟩ ?_
  rintro V ⟨hV, hVs, va0, va1, va2, va3⟩
  have hTV : WidthW V := HT.out.below hV
  generalize hBd : w.heap.size = B at *
  have HBd := Lib.hid hBd
  clear hBd
  refine wp_region_inv [] (fun W => Below V.heap.size V W) (fun W W' => Below W.heap.size W W') 4 (by kernel_rfl) (by kernel_rfl) (by kernel_rfl) ((Below.refl _ _).drew) (fun W W' h h' => h.trans (h'.mono h.size)) (fun _ _ h => h.size) ?_
  simp only [List.take_succ_cons, List.take_zero, List.drop_succ_cons, List.drop_zero]
  refine ⟨fun U W => ∃ b m, U 0 = .pointer (some ⟨b, 0, none⟩) ∧ V.heap.size ≤ b ∧ V.heap.size ≤ m ∧ Book b m W, fun _ _ => rfl, ?_, ?_, ?_⟩
  · rintro U W W' hC hT ⟨b, m, h0, hb, hm, hB⟩
    exact ⟨b, m, h0, hb, hm, hB.inv (hB.refl.below (hT.mono (Nat.le_refl _)))⟩
  · intro U W hC hH
    simp only [fillPuts, Act.put, List.setIfInBounds_toArray, List.set_cons_zero, List.set_cons_succ]
    go_wp2_with fail
    refine (bookNew _).mono ?_
    rintro e w1 ⟨b, m, rfl, hb, hm, hB, hb1⟩
    go_wp2_with fail
    have := hC.size
    exact ⟨rfl, rfl, hb1, ⟨b, m, updU_eq _ _ _, by omega, by omega, hB⟩, fun h => by cases h⟩
  refine wpInv_det (by kernel_rfl) (by kernel_rfl) ?_
  apply Exists.intro
  refine ⟨?_, ?_, ?_⟩
  · intro U W hC hH
    obtain ⟨hc1, hf1⟩ := bcell hC
    simp only [HypsU, predsOf, Region.binds, List.filterMap_cons, List.filterMap_nil, if_true, List.nil_append, List.cons_append, List.getD_cons_zero, List.getD_cons_succ] at hH
    simp only [fillPuts, Act.put, List.setIfInBounds_toArray, List.set_cons_zero, List.set_cons_succ, Nat.reduceAdd]
    go_wp2_with fail
    refine ⟨rfl, rfl, by (repeat' (first | (with_reducible exact Below.refl _ _) | (with_reducible assumption) | (with_reducible refine Below.alloc ?_ ?_ _) | (with_reducible refine below_grew ?_ ?_ _) | (with_reducible refine Below.setCell ?_ ?_ _) | (with_reducible refine Below.drew ?_) | (with_reducible refine below_drewN ?_ _) | omega | (simp; done) | (simp; omega))), ?_⟩
    conv => lhs; whnf
    try rfl
  · exact fun _ => rfl
  simp only [List.nil_append, List.cons_append, Nat.reduceAdd]
  refine wpInv_det (by kernel_rfl) (by kernel_rfl) ?_
  apply Exists.intro
  refine ⟨?_, ?_, ?_⟩
  · intro U W hC hH
    obtain ⟨hc1, hf1⟩ := bcell hC
    simp only [HypsU, predsOf, Region.binds, List.filterMap_cons, List.filterMap_nil, if_true, List.nil_append, List.cons_append, List.getD_cons_zero, List.getD_cons_succ] at hH
    simp only [fillPuts, Act.put, List.setIfInBounds_toArray, List.set_cons_zero, List.set_cons_succ, Nat.reduceAdd]
    go_wp2_with fail; refine (lawRight_any _ _ _ _ _).mono ?_; rintro e w' ⟨rfl, hb1⟩; obtain ⟨x1, rfl⟩ := below_as_grew hb1; clear hb1; go_wp2_with fail
    refine ⟨rfl, rfl, by (repeat' (first | (with_reducible exact Below.refl _ _) | (with_reducible assumption) | (with_reducible refine Below.alloc ?_ ?_ _) | (with_reducible refine below_grew ?_ ?_ _) | (with_reducible refine Below.setCell ?_ ?_ _) | (with_reducible refine Below.drew ?_) | (with_reducible refine below_drewN ?_ _) | omega | (simp; done) | (simp; omega))), ?_⟩
    conv => lhs; whnf
    try rfl
  · exact fun _ => rfl
  simp only [List.nil_append, List.cons_append, Nat.reduceAdd]
  refine ⟨fun U W => ∃ p, U 3 = .pointer (some ⟨p, 0, none⟩) ∧ V.heap.size ≤ p ∧ W.heap[p]? = some (.cells #[.int .i64 0, .int .i64 0] 33 (0, 0)), fun _ _ => rfl, ?_, ?_, ?_⟩
  · rintro U W W' hC hT ⟨p, h3, hp, hpc⟩
    exact ⟨p, h3, hp, (hT.block p (block_facts hpc).2.2).trans hpc⟩
  · intro U W hC hH
    simp only [fillPuts, Act.put, List.setIfInBounds_toArray, List.set_cons_zero, List.set_cons_succ]
    go_wp2_with fail
    refine ⟨rfl, rfl, by (repeat' (first | (with_reducible exact Below.refl _ _) | (with_reducible assumption) | (with_reducible refine Below.alloc ?_ ?_ _) | (with_reducible refine below_grew ?_ ?_ _) | (with_reducible refine Below.setCell ?_ ?_ _) | (with_reducible refine Below.drew ?_) | (with_reducible refine below_drewN ?_ _) | omega | (simp; done) | (simp; omega))), ⟨_, updU_eq _ _ _, hC.size, alloc_at _ _⟩, fun h => by cases h⟩
  simp only [List.nil_append, List.cons_append, Nat.reduceAdd, fillPuts, Act.put, List.setIfInBounds_toArray, List.set_cons_zero, List.set_cons_succ]
  rintro U W hC ⟨⟨b, m, h0, hb, hm, hB⟩, h1, h2, ⟨p, h3, hp, hpc⟩, -⟩ -
  simp only [h0, h1, h2, h3]
  have n1 : p ≠ b := fun h => by
    subst h
    rw [hB.book] at hpc
    simp at hpc
  have n2 : p ≠ m := fun h => by
    subst h
    obtain ⟨es, clk, h5, _⟩ := hB.map
    rw [h5] at hpc
    cases hpc
  obtain ⟨k1, k2, k3⟩ := block_facts hpc
  have c0 := k1 0
  have c1 := k1 1
  have f0 := k2 0
  have f1 := k2 1
  have lm := hB.lt_m
  have lb := hB.lt_b
  clear k1 k2 hpc
  simp only [List.getElem?_toArray, List.getElem?_cons_zero, List.getElem?_cons_succ] at c0 c1
  go_wp2_with fail
  have hsz := hC.size
  refine cut_world (fun X => Below V.heap.size V X ∧ Book b m X ∧ W.heap.size ≤ X.heap.size ∧ X.cell? ⟨B, 2, none⟩ = some (.int .i64 t) ∧ X.cell? ⟨B, 3, none⟩ = some (.int .i64 bud) ∧ X.cell? ⟨p, 0, none⟩ = some (.int .i64 (s % 3)) ∧ X.cell? ⟨p, 1, none⟩ = some (.int .i64 (c % 2 + 1))) ⟨?_, ?_, ?_, ?_, ?_, ?_, ?_⟩ ?_
  · exact (hC.setCell (by simpa using hp) _).setCell (by simpa using hp) _
  · exact (hB.setCell _ _ n1 n2).setCell _ _ n1 n2
  · simp
  · have n3 : B ≠ p := by omega
    rw [← va2, ← hC.cell (p := ⟨B, 2, none⟩) hVs]
    simp [go_sem, n3, n3.symm]
  · have n3 : B ≠ p := by omega
    rw [← va3, ← hC.cell (p := ⟨B, 3, none⟩) hVs]
    simp [go_sem, n3, n3.symm]
  · simp [go_sem, c0, c1, k3]
  · simp [go_sem, c0, c1, k3]
  rintro X ⟨hX, hBX, hWX, e2, e3, q0, q1⟩
  have lp : p < X.heap.size := by omega
  have lB : B < X.heap.size := by omega
  have nB : m ≠ B := by omega
  have hTX : WidthW X := hTV.below hX
  have n2s : m ≠ p := n2.symm
  clear c0 c1 f0 f1 hB h0 h1 h2 h3 hC
  refine wp_region_inv [17,18] (fun W => BkInv m X W) (fun W W' => BkInv m W W') 19 (by kernel_rfl) (by kernel_rfl) (by kernel_rfl) (hBX.refl.drew) (fun W W' h h' => h.trans h') (fun _ _ h => h.size) ?_
  simp only [List.take_succ_cons, List.take_zero, List.drop_succ_cons, List.drop_zero]
  have hal := Lib.hid (fun bud W (h : BkInv m X W) => alloc_any (s % 3) (c % 2 + 1) t bud b m W (hBX.inv h) (hTX.inv hBX h))
  refine wpInv_det (by kernel_rfl) (by kernel_rfl) ?_
  apply Exists.intro
  refine ⟨?_, ?_, ?_⟩
  · intro U W hC hH
    obtain ⟨hc1, hf1⟩ := bkcell hC
    have hR := hC.refl2
    simp only [HypsU, predsOf, Region.binds, List.filterMap_cons, List.filterMap_nil, if_true, List.nil_append, List.cons_append, List.getD_cons_zero, List.getD_cons_succ] at hH
    simp only [fillPuts, Act.put, List.setIfInBounds_toArray, List.set_cons_zero, List.set_cons_succ, Nat.reduceAdd]
    go_wp2_with fail
    refine ⟨rfl, rfl, by (repeat' (first | (with_reducible assumption) | (with_reducible exact BookOK.refl ‹_›) | (with_reducible refine BkInv.alloc ?_ _) | (with_reducible refine BkInv.grew ?_ _) | (with_reducible refine BkInv.bkd ?_ _) | (with_reducible refine BkInv.setCell ?_ ?_ _) | (with_reducible refine BkInv.drew ?_) | (with_reducible refine BkInv.drewN ?_ _) | omega | (simp; done) | (simp; omega))), ?_⟩
    conv => lhs; whnf
    try rfl
  · exact fun _ => rfl
  simp only [List.nil_append, List.cons_append, Nat.reduceAdd]
  refine wpInv_det (by kernel_rfl) (by kernel_rfl) ?_
  apply Exists.intro
  refine ⟨?_, ?_, ?_⟩
  · intro U W hC hH
    obtain ⟨hc1, hf1⟩ := bkcell hC
    have hR := hC.refl2
    simp only [HypsU, predsOf, Region.binds, List.filterMap_cons, List.filterMap_nil, if_true, List.nil_append, List.cons_append, List.getD_cons_zero, List.getD_cons_succ] at hH
    simp only [fillPuts, Act.put, List.setIfInBounds_toArray, List.set_cons_zero, List.set_cons_succ, Nat.reduceAdd]
    go_wp2_with fail
    refine ⟨rfl, rfl, by (repeat' (first | (with_reducible assumption) | (with_reducible exact BookOK.refl ‹_›) | (with_reducible refine BkInv.alloc ?_ _) | (with_reducible refine BkInv.grew ?_ _) | (with_reducible refine BkInv.bkd ?_ _) | (with_reducible refine BkInv.setCell ?_ ?_ _) | (with_reducible refine BkInv.drew ?_) | (with_reducible refine BkInv.drewN ?_ _) | omega | (simp; done) | (simp; omega))), ?_⟩
    conv => lhs; whnf
    try rfl
  · exact fun _ => rfl
  simp only [List.nil_append, List.cons_append, Nat.reduceAdd]
  refine wpInv_det (by kernel_rfl) (by kernel_rfl) ?_
  apply Exists.intro
  refine ⟨?_, ?_, ?_⟩
  · intro U W hC hH
    obtain ⟨hc1, hf1⟩ := bkcell hC
    have hR := hC.refl2
    simp only [HypsU, predsOf, Region.binds, List.filterMap_cons, List.filterMap_nil, if_true, List.nil_append, List.cons_append, List.getD_cons_zero, List.getD_cons_succ] at hH
    simp only [fillPuts, Act.put, List.setIfInBounds_toArray, List.set_cons_zero, List.set_cons_succ, Nat.reduceAdd]
    go_wp2_with fail
    refine ⟨rfl, rfl, by (repeat' (first | (with_reducible assumption) | (with_reducible exact BookOK.refl ‹_›) | (with_reducible refine BkInv.alloc ?_ _) | (with_reducible refine BkInv.grew ?_ _) | (with_reducible refine BkInv.bkd ?_ _) | (with_reducible refine BkInv.setCell ?_ ?_ _) | (with_reducible refine BkInv.drew ?_) | (with_reducible refine BkInv.drewN ?_ _) | omega | (simp; done) | (simp; omega))), ?_⟩
    conv => lhs; whnf
    try rfl
  · exact fun _ => rfl
  simp only [List.nil_append, List.cons_append, Nat.reduceAdd]
  refine wpInv_det (by kernel_rfl) (by kernel_rfl) ?_
  apply Exists.intro
  refine ⟨?_, ?_, ?_⟩
  · intro U W hC hH
    obtain ⟨hc1, hf1⟩ := bkcell hC
    have hR := hC.refl2
    simp only [HypsU, predsOf, Region.binds, List.filterMap_cons, List.filterMap_nil, if_true, List.nil_append, List.cons_append, List.getD_cons_zero, List.getD_cons_succ] at hH
    simp only [fillPuts, Act.put, List.setIfInBounds_toArray, List.set_cons_zero, List.set_cons_succ, Nat.reduceAdd]
    go_wp2_with fail
    refine ⟨rfl, rfl, by (repeat' (first | (with_reducible assumption) | (with_reducible exact BookOK.refl ‹_›) | (with_reducible refine BkInv.alloc ?_ _) | (with_reducible refine BkInv.grew ?_ _) | (with_reducible refine BkInv.bkd ?_ _) | (with_reducible refine BkInv.setCell ?_ ?_ _) | (with_reducible refine BkInv.drew ?_) | (with_reducible refine BkInv.drewN ?_ _) | omega | (simp; done) | (simp; omega))), ?_⟩
    conv => lhs; whnf
    try rfl
  · exact fun _ => rfl
  simp only [List.nil_append, List.cons_append, Nat.reduceAdd]
  refine wpInv_det (by kernel_rfl) (by kernel_rfl) ?_
  apply Exists.intro
  refine ⟨?_, ?_, ?_⟩
  · intro U W hC hH
    obtain ⟨hc1, hf1⟩ := bkcell hC
    have hR := hC.refl2
    simp only [HypsU, predsOf, Region.binds, List.filterMap_cons, List.filterMap_nil, if_true, List.nil_append, List.cons_append, List.getD_cons_zero, List.getD_cons_succ] at hH
    simp only [fillPuts, Act.put, List.setIfInBounds_toArray, List.set_cons_zero, List.set_cons_succ, Nat.reduceAdd]
    go_wp2_with fail
    refine ⟨rfl, rfl, by (repeat' (first | (with_reducible assumption) | (with_reducible exact BookOK.refl ‹_›) | (with_reducible refine BkInv.alloc ?_ _) | (with_reducible refine BkInv.grew ?_ _) | (with_reducible refine BkInv.bkd ?_ _) | (with_reducible refine BkInv.setCell ?_ ?_ _) | (with_reducible refine BkInv.drew ?_) | (with_reducible refine BkInv.drewN ?_ _) | omega | (simp; done) | (simp; omega))), ?_⟩
    conv => lhs; whnf
    try rfl
  · exact fun _ => rfl
  simp only [List.nil_append, List.cons_append, Nat.reduceAdd]
  refine wpInv_det (by kernel_rfl) (by kernel_rfl) ?_
  apply Exists.intro
  refine ⟨?_, ?_, ?_⟩
  · intro U W hC hH
    obtain ⟨hc1, hf1⟩ := bkcell hC
    have hR := hC.refl2
    simp only [HypsU, predsOf, Region.binds, List.filterMap_cons, List.filterMap_nil, if_true, List.nil_append, List.cons_append, List.getD_cons_zero, List.getD_cons_succ] at hH
    simp only [fillPuts, Act.put, List.setIfInBounds_toArray, List.set_cons_zero, List.set_cons_succ, Nat.reduceAdd]
    go_wp2_with fail
    refine ⟨rfl, rfl, by (repeat' (first | (with_reducible assumption) | (with_reducible exact BookOK.refl ‹_›) | (with_reducible refine BkInv.alloc ?_ _) | (with_reducible refine BkInv.grew ?_ _) | (with_reducible refine BkInv.bkd ?_ _) | (with_reducible refine BkInv.setCell ?_ ?_ _) | (with_reducible refine BkInv.drew ?_) | (with_reducible refine BkInv.drewN ?_ _) | omega | (simp; done) | (simp; omega))), ?_⟩
    conv => lhs; whnf
    try rfl
  · exact fun _ => rfl
  simp only [List.nil_append, List.cons_append, Nat.reduceAdd]
  refine wpInv_det (by kernel_rfl) (by kernel_rfl) ?_
  apply Exists.intro
  refine ⟨?_, ?_, ?_⟩
  · intro U W hC hH
    obtain ⟨hc1, hf1⟩ := bkcell hC
    have hR := hC.refl2
    simp only [HypsU, predsOf, Region.binds, List.filterMap_cons, List.filterMap_nil, if_true, List.nil_append, List.cons_append, List.getD_cons_zero, List.getD_cons_succ] at hH
    simp only [fillPuts, Act.put, List.setIfInBounds_toArray, List.set_cons_zero, List.set_cons_succ, Nat.reduceAdd]
    go_wp2_with fail; refine (hal.out _ _ hC).mono ?_; rintro e w' ⟨rfl, y1, rfl⟩; rw [a1.out]; go_wp2_with fail
    refine ⟨rfl, rfl, by (repeat' (first | (with_reducible assumption) | (with_reducible exact BookOK.refl ‹_›) | (with_reducible refine BkInv.alloc ?_ _) | (with_reducible refine BkInv.grew ?_ _) | (with_reducible refine BkInv.bkd ?_ _) | (with_reducible refine BkInv.setCell ?_ ?_ _) | (with_reducible refine BkInv.drew ?_) | (with_reducible refine BkInv.drewN ?_ _) | omega | (simp; done) | (simp; omega))), ?_⟩
    conv => lhs; whnf
    try rfl
  · exact fun _ => rfl
  simp only [List.nil_append, List.cons_append, Nat.reduceAdd]
  refine wpInv_det (by kernel_rfl) (by kernel_rfl) ?_
  apply Exists.intro
  refine ⟨?_, ?_, ?_⟩
  · intro U W hC hH
    obtain ⟨hc1, hf1⟩ := bkcell hC
    have hR := hC.refl2
    simp only [HypsU, predsOf, Region.binds, List.filterMap_cons, List.filterMap_nil, if_true, List.nil_append, List.cons_append, List.getD_cons_zero, List.getD_cons_succ] at hH
    simp only [fillPuts, Act.put, List.setIfInBounds_toArray, List.set_cons_zero, List.set_cons_succ, Nat.reduceAdd]
    go_wp2_with fail
    refine ⟨rfl, rfl, by (repeat' (first | (with_reducible assumption) | (with_reducible exact BookOK.refl ‹_›) | (with_reducible refine BkInv.alloc ?_ _) | (with_reducible refine BkInv.grew ?_ _) | (with_reducible refine BkInv.bkd ?_ _) | (with_reducible refine BkInv.setCell ?_ ?_ _) | (with_reducible refine BkInv.drew ?_) | (with_reducible refine BkInv.drewN ?_ _) | omega | (simp; done) | (simp; omega))), ?_⟩
    conv => lhs; whnf
    try rfl
  · exact fun _ => rfl
  simp only [List.nil_append, List.cons_append, Nat.reduceAdd]
  refine wpInv_det (by kernel_rfl) (by kernel_rfl) ?_
  apply Exists.intro
  refine ⟨?_, ?_, ?_⟩
  · intro U W hC hH
    obtain ⟨hc1, hf1⟩ := bkcell hC
    have hR := hC.refl2
    simp only [HypsU, predsOf, Region.binds, List.filterMap_cons, List.filterMap_nil, if_true, List.nil_append, List.cons_append, List.getD_cons_zero, List.getD_cons_succ] at hH
    simp only [fillPuts, Act.put, List.setIfInBounds_toArray, List.set_cons_zero, List.set_cons_succ, Nat.reduceAdd]
    go_wp2_with fail
    refine ⟨rfl, rfl, by (repeat' (first | (with_reducible assumption) | (with_reducible exact BookOK.refl ‹_›) | (with_reducible refine BkInv.alloc ?_ _) | (with_reducible refine BkInv.grew ?_ _) | (with_reducible refine BkInv.bkd ?_ _) | (with_reducible refine BkInv.setCell ?_ ?_ _) | (with_reducible refine BkInv.drew ?_) | (with_reducible refine BkInv.drewN ?_ _) | omega | (simp; done) | (simp; omega))), ?_⟩
    conv => lhs; whnf
    try rfl
  · exact fun _ => rfl
  simp only [List.nil_append, List.cons_append, Nat.reduceAdd]
  refine wpInv_det (by kernel_rfl) (by kernel_rfl) ?_
  apply Exists.intro
  refine ⟨?_, ?_, ?_⟩
  · intro U W hC hH
    obtain ⟨hc1, hf1⟩ := bkcell hC
    have hR := hC.refl2
    simp only [HypsU, predsOf, Region.binds, List.filterMap_cons, List.filterMap_nil, if_true, List.nil_append, List.cons_append, List.getD_cons_zero, List.getD_cons_succ] at hH
    simp only [fillPuts, Act.put, List.setIfInBounds_toArray, List.set_cons_zero, List.set_cons_succ, Nat.reduceAdd]
    go_wp2_with fail
    refine ⟨rfl, rfl, by (repeat' (first | (with_reducible assumption) | (with_reducible exact BookOK.refl ‹_›) | (with_reducible refine BkInv.alloc ?_ _) | (with_reducible refine BkInv.grew ?_ _) | (with_reducible refine BkInv.bkd ?_ _) | (with_reducible refine BkInv.setCell ?_ ?_ _) | (with_reducible refine BkInv.drew ?_) | (with_reducible refine BkInv.drewN ?_ _) | omega | (simp; done) | (simp; omega))), ?_⟩
    conv => lhs; whnf
    try rfl
  · exact fun _ => rfl
  simp only [List.nil_append, List.cons_append, Nat.reduceAdd]
  refine wpInv_det (by kernel_rfl) (by kernel_rfl) ?_
  apply Exists.intro
  refine ⟨?_, ?_, ?_⟩
  · intro U W hC hH
    obtain ⟨hc1, hf1⟩ := bkcell hC
    have hR := hC.refl2
    simp only [HypsU, predsOf, Region.binds, List.filterMap_cons, List.filterMap_nil, if_true, List.nil_append, List.cons_append, List.getD_cons_zero, List.getD_cons_succ] at hH
    simp only [fillPuts, Act.put, List.setIfInBounds_toArray, List.set_cons_zero, List.set_cons_succ, Nat.reduceAdd]
    go_wp2_with fail
    refine ⟨rfl, rfl, by (repeat' (first | (with_reducible assumption) | (with_reducible exact BookOK.refl ‹_›) | (with_reducible refine BkInv.alloc ?_ _) | (with_reducible refine BkInv.grew ?_ _) | (with_reducible refine BkInv.bkd ?_ _) | (with_reducible refine BkInv.setCell ?_ ?_ _) | (with_reducible refine BkInv.drew ?_) | (with_reducible refine BkInv.drewN ?_ _) | omega | (simp; done) | (simp; omega))), ?_⟩
    conv => lhs; whnf
    try rfl
  · exact fun _ => rfl
  simp only [List.nil_append, List.cons_append, Nat.reduceAdd]
  refine wpInv_det (by kernel_rfl) (by kernel_rfl) ?_
  apply Exists.intro
  refine ⟨?_, ?_, ?_⟩
  · intro U W hC hH
    obtain ⟨hc1, hf1⟩ := bkcell hC
    have hR := hC.refl2
    simp only [HypsU, predsOf, Region.binds, List.filterMap_cons, List.filterMap_nil, if_true, List.nil_append, List.cons_append, List.getD_cons_zero, List.getD_cons_succ] at hH
    simp only [fillPuts, Act.put, List.setIfInBounds_toArray, List.set_cons_zero, List.set_cons_succ, Nat.reduceAdd]
    go_wp2_with fail
    refine ⟨rfl, rfl, by (repeat' (first | (with_reducible assumption) | (with_reducible exact BookOK.refl ‹_›) | (with_reducible refine BkInv.alloc ?_ _) | (with_reducible refine BkInv.grew ?_ _) | (with_reducible refine BkInv.bkd ?_ _) | (with_reducible refine BkInv.setCell ?_ ?_ _) | (with_reducible refine BkInv.drew ?_) | (with_reducible refine BkInv.drewN ?_ _) | omega | (simp; done) | (simp; omega))), ?_⟩
    conv => lhs; whnf
    try rfl
  · exact fun _ => rfl
  simp only [List.nil_append, List.cons_append, Nat.reduceAdd]
  refine wpInv_det (by kernel_rfl) (by kernel_rfl) ?_
  apply Exists.intro
  refine ⟨?_, ?_, ?_⟩
  · intro U W hC hH
    obtain ⟨hc1, hf1⟩ := bkcell hC
    have hR := hC.refl2
    simp only [HypsU, predsOf, Region.binds, List.filterMap_cons, List.filterMap_nil, if_true, List.nil_append, List.cons_append, List.getD_cons_zero, List.getD_cons_succ] at hH
    simp only [fillPuts, Act.put, List.setIfInBounds_toArray, List.set_cons_zero, List.set_cons_succ, Nat.reduceAdd]
    go_wp2_with fail
    refine ⟨rfl, rfl, by (repeat' (first | (with_reducible assumption) | (with_reducible exact BookOK.refl ‹_›) | (with_reducible refine BkInv.alloc ?_ _) | (with_reducible refine BkInv.grew ?_ _) | (with_reducible refine BkInv.bkd ?_ _) | (with_reducible refine BkInv.setCell ?_ ?_ _) | (with_reducible refine BkInv.drew ?_) | (with_reducible refine BkInv.drewN ?_ _) | omega | (simp; done) | (simp; omega))), ?_⟩
    conv => lhs; whnf
    try rfl
  · exact fun _ => rfl
  simp only [List.nil_append, List.cons_append, Nat.reduceAdd]
  refine wpInv_det (by kernel_rfl) (by kernel_rfl) ?_
  apply Exists.intro
  refine ⟨?_, ?_, ?_⟩
  · intro U W hC hH
    obtain ⟨hc1, hf1⟩ := bkcell hC
    have hR := hC.refl2
    simp only [HypsU, predsOf, Region.binds, List.filterMap_cons, List.filterMap_nil, if_true, List.nil_append, List.cons_append, List.getD_cons_zero, List.getD_cons_succ] at hH
    simp only [fillPuts, Act.put, List.setIfInBounds_toArray, List.set_cons_zero, List.set_cons_succ, Nat.reduceAdd]
    go_wp2_with fail
    refine ⟨rfl, rfl, by (repeat' (first | (with_reducible assumption) | (with_reducible exact BookOK.refl ‹_›) | (with_reducible refine BkInv.alloc ?_ _) | (with_reducible refine BkInv.grew ?_ _) | (with_reducible refine BkInv.bkd ?_ _) | (with_reducible refine BkInv.setCell ?_ ?_ _) | (with_reducible refine BkInv.drew ?_) | (with_reducible refine BkInv.drewN ?_ _) | omega | (simp; done) | (simp; omega))), ?_⟩
    conv => lhs; whnf
    try rfl
  · exact fun _ => rfl
  simp only [List.nil_append, List.cons_append, Nat.reduceAdd]
  refine wpInv_det (by kernel_rfl) (by kernel_rfl) ?_
  apply Exists.intro
  refine ⟨?_, ?_, ?_⟩
  · intro U W hC hH
    obtain ⟨hc1, hf1⟩ := bkcell hC
    have hR := hC.refl2
    simp only [HypsU, predsOf, Region.binds, List.filterMap_cons, List.filterMap_nil, if_true, List.nil_append, List.cons_append, List.getD_cons_zero, List.getD_cons_succ] at hH
    simp only [fillPuts, Act.put, List.setIfInBounds_toArray, List.set_cons_zero, List.set_cons_succ, Nat.reduceAdd]
    go_wp2_with fail
    refine ⟨rfl, rfl, by (repeat' (first | (with_reducible assumption) | (with_reducible exact BookOK.refl ‹_›) | (with_reducible refine BkInv.alloc ?_ _) | (with_reducible refine BkInv.grew ?_ _) | (with_reducible refine BkInv.bkd ?_ _) | (with_reducible refine BkInv.setCell ?_ ?_ _) | (with_reducible refine BkInv.drew ?_) | (with_reducible refine BkInv.drewN ?_ _) | omega | (simp; done) | (simp; omega))), ?_⟩
    conv => lhs; whnf
    try rfl
  · exact fun _ => rfl
  simp only [List.nil_append, List.cons_append, Nat.reduceAdd]
  refine wpInv_det (by kernel_rfl) (by kernel_rfl) ?_
  apply Exists.intro
  refine ⟨?_, ?_, ?_⟩
  · intro U W hC hH
    obtain ⟨hc1, hf1⟩ := bkcell hC
    have hR := hC.refl2
    simp only [HypsU, predsOf, Region.binds, List.filterMap_cons, List.filterMap_nil, if_true, List.nil_append, List.cons_append, List.getD_cons_zero, List.getD_cons_succ] at hH
    simp only [fillPuts, Act.put, List.setIfInBounds_toArray, List.set_cons_zero, List.set_cons_succ, Nat.reduceAdd]
    go_wp2_with fail
    refine ⟨rfl, rfl, by (repeat' (first | (with_reducible assumption) | (with_reducible exact BookOK.refl ‹_›) | (with_reducible refine BkInv.alloc ?_ _) | (with_reducible refine BkInv.grew ?_ _) | (with_reducible refine BkInv.bkd ?_ _) | (with_reducible refine BkInv.setCell ?_ ?_ _) | (with_reducible refine BkInv.drew ?_) | (with_reducible refine BkInv.drewN ?_ _) | omega | (simp; done) | (simp; omega))), ?_⟩
    conv => lhs; whnf
    try rfl
  · exact fun _ => rfl
  simp only [List.nil_append, List.cons_append, Nat.reduceAdd]
  refine wpInv_det (by kernel_rfl) (by kernel_rfl) ?_
  apply Exists.intro
  refine ⟨?_, ?_, ?_⟩
  · intro U W hC hH
    obtain ⟨hc1, hf1⟩ := bkcell hC
    have hR := hC.refl2
    simp only [HypsU, predsOf, Region.binds, List.filterMap_cons, List.filterMap_nil, if_true, List.nil_append, List.cons_append, List.getD_cons_zero, List.getD_cons_succ] at hH
    simp only [fillPuts, Act.put, List.setIfInBounds_toArray, List.set_cons_zero, List.set_cons_succ, Nat.reduceAdd]
    go_wp2_with fail; refine (hal.out _ _ hC).mono ?_; rintro e w' ⟨rfl, y1, rfl⟩; rw [a2.out]; go_wp2_with fail
    refine ⟨rfl, rfl, by (repeat' (first | (with_reducible assumption) | (with_reducible exact BookOK.refl ‹_›) | (with_reducible refine BkInv.alloc ?_ _) | (with_reducible refine BkInv.grew ?_ _) | (with_reducible refine BkInv.bkd ?_ _) | (with_reducible refine BkInv.setCell ?_ ?_ _) | (with_reducible refine BkInv.drew ?_) | (with_reducible refine BkInv.drewN ?_ _) | omega | (simp; done) | (simp; omega))), ?_⟩
    conv => lhs; whnf
    try rfl
  · exact fun _ => rfl
  simp only [List.nil_append, List.cons_append, Nat.reduceAdd]
  have hlm := hBX.lt_m
  refine ⟨fun U W => ∃ p, U 17 = .pointer (some ⟨p, 0, none⟩) ∧ X.heap.size ≤ p ∧ W.heap[p]? = some (.cells #[.int .i64 0, .int .i64 0, .int .i64 0, .int .i64 0, .int .i64 0] 22 (0, 0)), fun _ _ => rfl, ?_, ?_, ?_⟩
  · rintro U W W' hC hT ⟨p, h3, hp, hpc⟩
    exact ⟨p, h3, hp, (hT.block p (block_facts hpc).2.2 (by omega)).trans hpc⟩
  · intro U W hC hH
    simp only [fillPuts, Act.put, List.setIfInBounds_toArray, List.set_cons_zero, List.set_cons_succ, Nat.reduceAdd]
    go_wp2_with fail
    have hR := hC.refl2
    refine ⟨rfl, rfl, by (repeat' (first | (with_reducible assumption) | (with_reducible exact BookOK.refl ‹_›) | (with_reducible refine BkInv.alloc ?_ _) | (with_reducible refine BkInv.grew ?_ _) | (with_reducible refine BkInv.bkd ?_ _) | (with_reducible refine BkInv.setCell ?_ ?_ _) | (with_reducible refine BkInv.drew ?_) | (with_reducible refine BkInv.drewN ?_ _) | omega | (simp; done) | (simp; omega))), ⟨_, updU_eq _ _ _, hC.size, alloc_at _ _⟩, fun _ => ⟨_, rfl, Nat.le_refl _, by simp⟩⟩
  simp only [List.nil_append, List.cons_append, Nat.reduceAdd]
  refine ⟨fun U W => ∃ p, U 18 = .pointer (some ⟨p, 0, none⟩) ∧ X.heap.size ≤ p ∧ W.heap[p]? = some (.cells #[.int .i64 0, .int .i64 0, .int .i64 0, .int .i64 0, .int .i64 0] 22 (0, 0)), fun _ _ => rfl, ?_, ?_, ?_⟩
  · rintro U W W' hC hT ⟨p, h3, hp, hpc⟩
    exact ⟨p, h3, hp, (hT.block p (block_facts hpc).2.2 (by omega)).trans hpc⟩
  · intro U W hC hH
    simp only [fillPuts, Act.put, List.setIfInBounds_toArray, List.set_cons_zero, List.set_cons_succ, Nat.reduceAdd]
    go_wp2_with fail
    have hR := hC.refl2
    refine ⟨rfl, rfl, by (repeat' (first | (with_reducible assumption) | (with_reducible exact BookOK.refl ‹_›) | (with_reducible refine BkInv.alloc ?_ _) | (with_reducible refine BkInv.grew ?_ _) | (with_reducible refine BkInv.bkd ?_ _) | (with_reducible refine BkInv.setCell ?_ ?_ _) | (with_reducible refine BkInv.drew ?_) | (with_reducible refine BkInv.drewN ?_ _) | omega | (simp; done) | (simp; omega))), ⟨_, updU_eq _ _ _, hC.size, alloc_at _ _⟩, fun _ => ⟨_, rfl, Nat.le_refl _, by simp⟩⟩
  simp only [List.nil_append, List.cons_append, Nat.reduceAdd]
  simp only [List.nil_append, List.cons_append, Nat.reduceAdd, fillPuts, Act.put, List.setIfInBounds_toArray, List.set_cons_zero, List.set_cons_succ]
  rintro U Y hC ⟨g0, g1, g2, g3, g4, g5, g6, g7, g8, g9, g10, g11, g12, g13, g14, g15, g16, ⟨p1, g17, hp1, hpc1⟩, ⟨p2, g18, hp2, hpc2⟩, -⟩ hF
  have n4 : p1 ≠ p2 := fun h => hF 17 18 rfl rfl (by decide) (by rw [g17, g18, h])
  simp only [g0, g1, g2, g3, g4, g5, g6, g7, g8, g9, g10, g11, g12, g13, g14, g15, g16, g17, g18]
  obtain ⟨u1, u2, u3⟩ := block_facts hpc1
  obtain ⟨v1, v2, v3⟩ := block_facts hpc2
  have i0 := u1 0
  have i1 := u1 1
  have i2 := u1 2
  have i3 := u1 3
  have i4 := u1 4
  have j0 := v1 0
  have j1 := v1 1
  have j2 := v1 2
  have j3 := v1 3
  have j4 := v1 4
  clear hal u1 v1 hpc1 hpc2 g0 g1 g2 g3 g4 g5 g6 g7 g8 g9 g10 g11 g12 g13 g14 g15 g16 g17 g18 e2 e3 q0 q1 hF
  simp only [List.getElem?_toArray, List.getElem?_cons_zero, List.getElem?_cons_succ] at i0 i1 i2 i3 i4 j0 j1 j2 j3 j4
  have n5 := n4.symm
  go_wp2_with fail
  refine cut_world (fun Z => Below B w Z ∧ (∀ k, k < 5 → Z.cell? ⟨p1, k, none⟩ = some (.int .i64 ([l0, l1, l2, l3, l4].getD k 0)) ∧ Z.cell? ⟨p2, k, none⟩ = some (.int .i64 ([r0, r1, r2, r3, r4].getD k 0)))) ⟨?_, ?_⟩ ?_
  · have base : Below B w Y := (hV.trans (hX.mono (by omega))).trans (below_of_bk hC (by omega) (by omega))
    repeat' (refine Below.setCell ?_ (by first | (show B ≤ p1; omega) | (show B ≤ p2; omega)) _)
    exact base
  · intro k hk
    have : k = 0 ∨ k = 1 ∨ k = 2 ∨ k = 3 ∨ k = 4 := by omega
    rcases this with rfl | rfl | rfl | rfl | rfl <;> exact ⟨by simp [go_sem, n4, n5, u3, v3, i0, i1, i2, i3, i4], by simp [go_sem, n4, n5, u3, v3, j0, j1, j2, j3, j4]⟩
  rintro Z ⟨hZ, hZc⟩
  clear i0 i1 i2 i3 i4 j0 j1 j2 j3 j4 u2 v2
  have HZ := Lib.hid hZc
  clear hZc
  go_loopw [35] (fun cnt wr => ∃ k : Nat, k ≤ 5 ∧ cnt = .int .i64 k ∧ ∃ d, wr = Z.drewN d) (fun cnt _ => 5 - (intOf cnt).toNat)
  case atStart => exact ⟨0, by omega, rfl, 0, rfl⟩
  case round =>
    obtain ⟨k, hk, rfl, d, rfl⟩ := hrel
    by_cases hlt : k < 5
    · have hlt' : (k : Int) < 5 := by omega
      have hk0 : (0 : Int) ≤ k := by omega
      obtain ⟨x1, x2⟩ := HZ.out k hlt
      have x3 := HL.out k
      generalize [l0, l1, l2, l3, l4].getD k 0 = xl at *
      generalize [r0, r1, r2, r3, r4].getD k 0 = xr at *
      go_wp2_with fail
      go_quiet (fail)
      go_wp2
      go_roundw
      case rel => exact ⟨k + 1, by omega, by go_num, _, rfl⟩
      case measure => simp [intOf]; omega
    · obtain rfl : k = 5 := by omega
      go_wp2
      go_ret
      exact ⟨rfl, by rw [HBd.out]; exact below_drewN hZ _⟩

theorem allocMore_big (s c t bud n : Int) (hb : 1099511627776 < bud) (w : World) (hT : WidthW w) : Calls Tryd.prog 10 #[.agg #[.int .i64 s, .int .i64 c, .int .i64 t, .int .i64 bud], .int .u16 n] w fun e w' => e = .returned (.bool true) ∧ Below w.heap.size w w' := by
  have ha := Lib.hid (fun w hT => awake14 w hT)
  have HT := Lib.hid hT
  clear hT
  go_enter Tryd.func10, Tryd.ntmps10
  go_wp2_with fail
  refine (ha.out _ (HT.out.below (by (repeat' (first | (with_reducible exact Below.refl _ _) | (with_reducible assumption) | (with_reducible refine Below.alloc ?_ ?_ _) | (with_reducible refine below_grew ?_ ?_ _) | (with_reducible refine Below.setCell ?_ ?_ _) | (with_reducible refine Below.drew ?_) | (with_reducible refine below_drewN ?_ _) | omega | (simp; done) | (simp; omega)))))).mono ?_
  rintro e w0 ⟨rfl, hb0⟩
  obtain ⟨x0, rfl⟩ := below_as_grew hb0
  clear hb0
  go_wp2_with fail
  go_ret
  exact ⟨rfl, by (repeat' (first | (with_reducible exact Below.refl _ _) | (with_reducible assumption) | (with_reducible refine Below.alloc ?_ ?_ _) | (with_reducible refine below_grew ?_ ?_ _) | (with_reducible refine Below.setCell ?_ ?_ _) | (with_reducible refine Below.drew ?_) | (with_reducible refine below_drewN ?_ _) | omega | (simp; done) | (simp; omega)))⟩
theorem allocMore_any (s c t bud n : Int) (h64 : -9223372036854775808 ≤ bud) (hn : 0 ≤ n ∧ n ≤ 65535) (w : World) (hT : WidthW w) : Calls Tryd.prog 10 #[.agg #[.int .i64 s, .int .i64 c, .int .i64 t, .int .i64 bud], .int .u16 n] w fun e w' => e = .returned (.bool true) ∧ Below w.heap.size w w' := by
  by_cases hb : bud ≤ 1099511627776
  · exact allocMore_walk s c t bud n hb h64 hn w hT
  · exact allocMore_big s c t bud n (by omega) w hT
end Go.Proofs.YtmcjbejccelagaaDoor
namespace Go
open Go.RowKit
/-- All that was there stays, all rows of cells stay, and books stay books. -/
structure TB (V W W' : World) : Prop where
  below : Below V.heap.size W W'
  cells : ∀ (k : Nat) (cs : Array Value) (T : TypeId) (f : Nat × Nat), W.heap[k]? = some (.cells cs T f) → W'.heap[k]? = some (.cells cs T f)
  books : ∀ T b m, BookOK T b m W → BookOK T b m W'
theorem TB.of_below {V W W' : World} (hs : V.heap.size ≤ W.heap.size) (h : Below W.heap.size W W') : TB V W W' :=
  ⟨h.mono hs, fun k _ _ _ hk => (h.block k (Array.getElem?_eq_some_iff.1 hk).1).trans hk, fun _ _ _ hB => hB.inv (hB.refl.below h)⟩
theorem TB.of_bk {V W W' : World} {m : Nat} (hm : V.heap.size ≤ m) (hs : V.heap.size ≤ W.heap.size) (h : BkInv m W W') (hmap : ∃ es clk, W.heap[m]? = some (.map es clk)) : TB V W W' := by
  obtain ⟨es, clk, h1⟩ := hmap
  refine ⟨below_of_bk h hs hm, fun k cs T f hk => ?_, fun T b m' hB => ?_⟩
  · have hmk : m ≠ k := fun e => by
      subst e
      rw [hk] at h1
      cases h1
    exact (h.block k (Array.getElem?_eq_some_iff.1 hk).1 hmk).trans hk
  · have hbm : m ≠ b := fun e => by
      subst e
      rw [hB.book] at h1
      cases h1
    by_cases e : m = m'
    · subst e
      exact ⟨(h.block b hB.lt_b hbm).trans hB.book, hB.ne, h.map⟩
    · obtain ⟨es', clk', h2, h3⟩ := hB.map
      exact ⟨(h.block b hB.lt_b hbm).trans hB.book, hB.ne, es', clk', (h.block m' hB.lt_m e).trans h2, h3⟩
end Go
