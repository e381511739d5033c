/-
  Layer 14's example.
-/
import Derived.Test.YtmcjbejccelagaaDoorAlloc
import Derived.Test.YtmcjbejccelagaaDoorEq
namespace Go
open Go.RowKit
theorem below_bkd {B m : Nat} {a w : World} (h : Below B a w) (hs : B ≤ w.heap.size) (hm : B ≤ m) (x : BookBy) : Below B a (w.bkd m x) :=
  h.trans ⟨rfl, rfl, rfl, by simp, fun k hk => World.bkd_block w m x k (by omega) (by omega)⟩
end Go
namespace Go.Proofs.YtmcjbejccelagaaDoor
open Go.RowKit Go.BigFrame Go.Vec Go.Cost
set_option linter.unusedSimpArgs false

theorem awake14 (w : World) (hT : WidthW w) : Calls Tryd.prog 26 #[] w fun e w' => e = .returned (.bool true) ∧ Below w.heap.size w w' := by
  have a1 : aggOf (allocF 0 1 7 3) = .agg #[.int .i64 0, .int .i64 0, .int .i64 0, .int .i64 0, .int .i64 0] := by
    rw [show allocF 0 1 7 3 = [0, 0, 0, 0, 0] from by decide +kernel]; rfl
  have a2 : aggOf (allocF 0 1 7 4) = .agg #[.int .i64 0, .int .i64 0, .int .i64 1, .int .i64 0, .int .i64 0] := by
    rw [show allocF 0 1 7 4 = [0, 0, 1, 0, 0] from by decide +kernel]; rfl
  have a3 : slopeF 0 1 7 2 = 18 := by decide +kernel
  have he := fun (k0 k1 k2 k3 k4 l0 l1 l2 l3 l4 : Int) w => eq_flat (P := Tryd.prog) 22 3 [.int .i64, .int .i64, .int .i64, .int .i64, .int .i64] (by kernel_rfl) (by decide) (by kernel_rfl) [.int .i64 k0, .int .i64 k1, .int .i64 k2, .int .i64 k3, .int .i64 k4] [.int .i64 l0, .int .i64 l1, .int .i64 l2, .int .i64 l3, .int .i64 l4] rfl rfl w
  have h0 := Lib.hid (bookNew w)
  have HT := Lib.hid hT
  clear hT
  go_enter Tryd.func26, Tryd.ntmps26
  go_wp2_with fail
  refine h0.out.mono ?_
  rintro e w1 ⟨b, m, rfl, _, hm, hB, hb1⟩
  have hT1 : WidthW w1 := HT.out.below hb1
  have hml := hB.lt_m
  have d0 : m ≠ w1.heap.size := by omega
  have hsz := hb1.size
  go_wp2_with fail
  refine (alloc_any _ _ _ _ b m _ (hB.inv ?_) (hT1.inv hB ?_)).mono ?_
  · (repeat' (first | (with_reducible assumption) | (with_reducible exact BookOK.refl ‹_›) | (with_reducible refine BkInv.alloc ?_ _) | (with_reducible refine BkInv.grew ?_ _) | (with_reducible refine BkInv.bkd ?_ _) | (with_reducible refine BkInv.setCell ?_ ?_ _) | (with_reducible refine BkInv.drew ?_) | (with_reducible refine BkInv.drewN ?_ _) | omega | (simp; done) | (simp; omega)))
  · (repeat' (first | (with_reducible assumption) | (with_reducible exact BookOK.refl ‹_›) | (with_reducible refine BkInv.alloc ?_ _) | (with_reducible refine BkInv.grew ?_ _) | (with_reducible refine BkInv.bkd ?_ _) | (with_reducible refine BkInv.setCell ?_ ?_ _) | (with_reducible refine BkInv.drew ?_) | (with_reducible refine BkInv.drewN ?_ _) | omega | (simp; done) | (simp; omega)))
  rintro e w' ⟨rfl, y1, rfl⟩
  rw [a1]
  go_wp2_with fail
  refine (alloc_any _ _ _ _ b m _ (hB.inv ?_) (hT1.inv hB ?_)).mono ?_
  · (repeat' (first | (with_reducible assumption) | (with_reducible exact BookOK.refl ‹_›) | (with_reducible refine BkInv.alloc ?_ _) | (with_reducible refine BkInv.grew ?_ _) | (with_reducible refine BkInv.bkd ?_ _) | (with_reducible refine BkInv.setCell ?_ ?_ _) | (with_reducible refine BkInv.drew ?_) | (with_reducible refine BkInv.drewN ?_ _) | omega | (simp; done) | (simp; omega)))
  · (repeat' (first | (with_reducible assumption) | (with_reducible exact BookOK.refl ‹_›) | (with_reducible refine BkInv.alloc ?_ _) | (with_reducible refine BkInv.grew ?_ _) | (with_reducible refine BkInv.bkd ?_ _) | (with_reducible refine BkInv.setCell ?_ ?_ _) | (with_reducible refine BkInv.drew ?_) | (with_reducible refine BkInv.drewN ?_ _) | omega | (simp; done) | (simp; omega)))
  rintro e w' ⟨rfl, y2, rfl⟩
  rw [a2]
  go_wp2_with fail
  refine (slope_any _ _ _ _ _ (hT1.inv hB ?_)).mono ?_
  · (repeat' (first | (with_reducible assumption) | (with_reducible exact BookOK.refl ‹_›) | (with_reducible refine BkInv.alloc ?_ _) | (with_reducible refine BkInv.grew ?_ _) | (with_reducible refine BkInv.bkd ?_ _) | (with_reducible refine BkInv.setCell ?_ ?_ _) | (with_reducible refine BkInv.drew ?_) | (with_reducible refine BkInv.drewN ?_ _) | omega | (simp; done) | (simp; omega)))
  rintro e w' ⟨rfl, hb1⟩; obtain ⟨x1, rfl⟩ := below_as_grew hb1; clear hb1
  rw [a3]
  go_wp2_with fail
  go_ret
  refine ⟨rfl, ?_⟩
  exact below_bkd (hb1.alloc hsz _) (by simp; omega) hm _
end Go.Proofs.YtmcjbejccelagaaDoor
