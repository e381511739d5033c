/-
  AllocChans, walked.
-/
import Derived.Test.YtmcjbejccelagaaDoorAllocC
import Derived.Test.YtmcjbejccelagaaDoorAllocW
namespace Go.Proofs.YtmcjbejccelagaaDoor
open Go.RowKit Go.BigFrame Go.Vec Go.Cost
set_option linter.unusedSimpArgs false
theorem allocGo_len (s c t bud : Int) : ∀ (f : Nat) (l : List Int), (allocGo s c t bud f l).length = l.length
  | 0, _ => rfl
  | f + 1, l => by
    simp only [allocGo]
    split
    · rfl
    · split
      · rfl
      · rw [allocGo_len s c t bud f]; simp
theorem allocF_five (s c t bud : Int) : ∃ l0 l1 l2 l3 l4 : Int, allocF s c t bud = [l0, l1, l2, l3, l4] := by
  have h : (allocF s c t bud).length = 5 := allocGo_len s c t bud _ _
  generalize allocF s c t bud = l at *
  match l, h with
  | [a, b, c, d, e], _ => exact ⟨a, b, c, d, e, rfl⟩

set_option maxHeartbeats 1000000 in
set_option maxRecDepth 100000 in
theorem allocChans_walk (s t n : Int) (hs : 0 ≤ s ∧ s ≤ 255) (ht : 0 ≤ t ∧ t ≤ 255) (hn : 0 ≤ n ∧ n ≤ 65535) (w : World) (hT : WidthW w) : Calls Tryd.prog 11 #[.int .u8 s, .int .u8 t, .int .u16 n] w fun e w' => e = .returned (.bool true) ∧ Below w.heap.size w w' := by
  have he := fun (k0 k1 k2 k3 k4 l0 l1 l2 l3 l4 : Int) w => eq_flat (P := Tryd.prog) 22 3 [.int .i64, .int .i64, .int .i64, .int .i64, .int .i64] (by kernel_rfl) (by decide) (by kernel_rfl) [.int .i64 k0, .int .i64 k1, .int .i64 k2, .int .i64 k3, .int .i64 k4] [.int .i64 l0, .int .i64 l1, .int .i64 l2, .int .i64 l3, .int .i64 l4] rfl rfl w
  obtain ⟨l0, l1, l2, l3, l4, hl⟩ := allocF_five (s % 3) 1 (t % 8) (n % 5001)
  have a1 : aggOf (allocF (s % 3) 1 (t % 8) (n % 5001)) = .agg #[.int .i64 l0, .int .i64 l1, .int .i64 l2, .int .i64 l3, .int .i64 l4] := by rw [hl]; rfl
  have a2 : aggOf (allocF (s % 3) 2 (t % 8) (2 * (n % 5001))) = .agg #[.int .i64 l0, .int .i64 l1, .int .i64 l2, .int .i64 l3, .int .i64 l4] := by rw [allocF_12 _ _ (n % 5001) _ (by omega) (by omega), hl]; rfl
  have a3 : aggOf (allocF (s % 3) 2 (t % 8) (2 * (n % 5001) + 1)) = .agg #[.int .i64 l0, .int .i64 l1, .int .i64 l2, .int .i64 l3, .int .i64 l4] := by rw [allocF_12 _ _ (n % 5001) _ (by omega) (by omega), hl]; rfl
  have ha := Lib.hid (awake14 w hT)
  have HT := Lib.hid hT
  clear hT hl
  go_enter Tryd.func11, Tryd.ntmps11
  go_wp2_with fail
  refine ha.out.mono ?_
  rintro e w0 ⟨rfl, hb0⟩
  have hT0 : WidthW w0 := HT.out.below hb0
  go_wp2_with fail
  refine (bookNew w0).mono ?_
  rintro e w1 ⟨b, m, rfl, _, hm, hB, hb1⟩
  have hT1 : WidthW w1 := hT0.below hb1
  have hml := hB.lt_m
  have d0 : m ≠ w1.heap.size := by omega
  have d1 : m ≠ w1.heap.size + 1 := by omega
  have d2 : m ≠ w1.heap.size + 2 := by omega
  have hsz := hb1.size
  have hbw : Below w.heap.size w w1 := hb0.trans (hb1.mono hb0.size)
  have hszw := hbw.size
  have hmw : w.heap.size ≤ m := Nat.le_trans hb0.size hm
  go_wp2_with fail
  refine (alloc_any _ _ _ _ b m _ (hB.inv ?_) (hT1.inv hB ?_)).mono ?_
  · (repeat' (first | (with_reducible assumption) | (with_reducible exact BookOK.refl ‹_›) | (with_reducible refine BkInv.alloc ?_ _) | (with_reducible refine BkInv.grew ?_ _) | (with_reducible refine BkInv.bkd ?_ _) | (with_reducible refine BkInv.setCell ?_ ?_ _) | (with_reducible refine BkInv.drew ?_) | (with_reducible refine BkInv.drewN ?_ _) | omega | (simp; done) | (simp; omega)))
  · (repeat' (first | (with_reducible assumption) | (with_reducible exact BookOK.refl ‹_›) | (with_reducible refine BkInv.alloc ?_ _) | (with_reducible refine BkInv.grew ?_ _) | (with_reducible refine BkInv.bkd ?_ _) | (with_reducible refine BkInv.setCell ?_ ?_ _) | (with_reducible refine BkInv.drew ?_) | (with_reducible refine BkInv.drewN ?_ _) | omega | (simp; done) | (simp; omega)))
  rintro e w' ⟨rfl, y1, rfl⟩
  rw [a1]
  go_wp2_with fail
  have d3 : m ≠ w1.heap.size + 1 + 1 + y1.gr.objs.size := by omega
  refine cut_world (fun V => BkInv m w1 V ∧ w1.heap.size + 1 + 1 + y1.gr.objs.size < V.heap.size ∧ w1.heap.size + 1 < V.heap.size ∧ V.cell? ⟨w1.heap.size + 1, 0, none⟩ = some (.int .i64 (s % 3)) ∧ V.cell? ⟨w1.heap.size + 1, 1, none⟩ = some (.int .i64 2) ∧ V.cell? ⟨w1.heap.size + 1 + 1 + y1.gr.objs.size, 0, none⟩ = some (.int .i64 l0) ∧ V.cell? ⟨w1.heap.size + 1 + 1 + y1.gr.objs.size, 1, none⟩ = some (.int .i64 l1) ∧ V.cell? ⟨w1.heap.size + 1 + 1 + y1.gr.objs.size, 2, none⟩ = some (.int .i64 l2) ∧ V.cell? ⟨w1.heap.size + 1 + 1 + y1.gr.objs.size, 3, none⟩ = some (.int .i64 l3) ∧ V.cell? ⟨w1.heap.size + 1 + 1 + y1.gr.objs.size, 4, none⟩ = some (.int .i64 l4)) ⟨by (repeat' (first | (with_reducible assumption) | (with_reducible exact BookOK.refl ‹_›) | (with_reducible refine BkInv.alloc ?_ _) | (with_reducible refine BkInv.grew ?_ _) | (with_reducible refine BkInv.bkd ?_ _) | (with_reducible refine BkInv.setCell ?_ ?_ _) | (with_reducible refine BkInv.drew ?_) | (with_reducible refine BkInv.drewN ?_ _) | omega | (simp; done) | (simp; omega))), by simp, by simp; omega, by simp [go_sem, d0, d1], by simp [go_sem, d0, d1], by simp [go_sem, d3], by simp [go_sem, d3], by simp [go_sem, d3], by simp [go_sem, d3], by simp [go_sem, d3]⟩ ?_
  rintro V ⟨hV, k0, e1, k1, k2, k3, k4, k5, k6, k7⟩
  generalize w1.heap.size + 1 + 1 + y1.gr.objs.size = K at *
  have hBV := hB.inv hV
  have hTV : WidthW V := hT1.inv hB hV
  obtain ⟨x0, hx0⟩ := bkInv_as hBV.refl
  have hal := Lib.hid (fun c bud x => (alloc_any (s % 3) c (t % 8) bud b m (V.bkd m x) (hBV.inv (hBV.refl.bkd x)) (hTV.inv hBV (hBV.refl.bkd x))).bkd_of hBV.lt_m)
  have hQ : ∀ bud x, 2 * (n % 5001) ≤ bud ∧ bud ≤ 2 * (n % 5001) + 1 → Calls Tryd.prog 27 #[.pointer (some ⟨b, 0, none⟩), .agg #[.int .i64 (s % 3), .int .i64 2], .int .i64 (t % 8), .int .i64 bud] (V.bkd m x) fun e w' => e = .returned (.agg #[.int .i64 l0, .int .i64 l1, .int .i64 l2, .int .i64 l3, .int .i64 l4]) ∧ ∃ y, w' = V.bkd m y := fun bud x hb => by
    have q := hal.out 2 bud x
    rw [allocF_12 _ _ (n % 5001) _ (by omega) hb, a1] at q
    exact q
  have Q := Lib.hid hQ
  have hmV := hBV.lt_m
  have hlt := hV.size
  clear hQ hal a1 a2 a3
  refine cut_world (fun Y => ∃ x, Y = V.bkd m x) ⟨x0, hx0⟩ ?_
  clear hx0
  rintro _ ⟨x1, rfl⟩
  refine wp_region_bkd_all (by kernel_rfl) (by kernel_rfl) ?_
  repeat (go_big_quiet_step (first | (go_at_call 27; refine Q.out _ _ ?_; omega)))
  refine wpQuiet_nil ?_
  rintro _ ⟨x, rfl⟩
  go_wp2
  go_ret
  have hbV : Below w.heap.size w1 V := ⟨hV.os, hV.tape, hV.output, hV.size, fun k hk => hV.block k (by omega) (by omega)⟩
  exact ⟨rfl, below_bkd (hbw.trans hbV) (by omega) hmw _⟩
end Go.Proofs.YtmcjbejccelagaaDoor
