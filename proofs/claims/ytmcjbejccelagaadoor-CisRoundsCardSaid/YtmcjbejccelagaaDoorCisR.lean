/-
  The law CisRounds, walked: it answers true.
-/
import Derived.Test.YtmcjbejccelagaaDoorCisA
namespace Go.Proofs.YtmcjbejccelagaaDoor
open Go.RowKit Go.BigFrame
set_option linter.unusedSimpArgs false

theorem cosM_half : ∀ m : Fin 256, cosM (((m.val + 128) % 256 : Nat) : Int) = -cosM (m.val : Int) := by decide +kernel
theorem cosM_length : ∀ m : Fin 256, 16752649 < cosM (m.val : Int) * cosM (m.val : Int) + cosM (((m.val + 192) % 256 : Nat) : Int) * cosM (((m.val + 192) % 256 : Nat) : Int) ∧ cosM (m.val : Int) * cosM (m.val : Int) + cosM (((m.val + 192) % 256 : Nat) : Int) * cosM (((m.val + 192) % 256 : Nat) : Int) < 16801801 := by decide +kernel
theorem cosF_half (j : Int) : cosF (j + 128) = -cosF j := by
  have h := cosM_half ⟨(j % 256).toNat, by omega⟩
  unfold cosF
  have e1 : ((j + 128) % 256) = (((j % 256).toNat + 128) % 256 : Nat) := by omega
  have e2 : j % 256 = ((j % 256).toNat : Nat) := by omega
  rw [e1, h, ← e2]
theorem cosF_whole (j : Int) : cosF (j + 256) = cosF j := by unfold cosF; congr 1; omega
theorem cosF_length (j : Int) : 16752649 < cosF j * cosF j + cosF (j - 64) * cosF (j - 64) ∧ cosF j * cosF j + cosF (j - 64) * cosF (j - 64) < 16801801 := by
  have h := cosM_length ⟨(j % 256).toNat, by omega⟩
  unfold cosF
  have e1 : ((j - 64) % 256) = (((j % 256).toNat + 192) % 256 : Nat) := by omega
  have e2 : j % 256 = ((j % 256).toNat : Nat) := by omega
  rw [e1, e2]
  exact h

theorem rounds_walk (j : Int) (hj : -32768 ≤ j ∧ j ≤ 32767) (w : World) (hT : CosW w) :
    Calls Tryd.prog 5 #[.int .i16 j] w fun e w' => e = .returned (.bool true) ∧ Below w.heap.size w w' := by
  have ht := turn_any
  have e1 : turnF (j + 128) = (-cosF j, cosF (j - 64)) := by unfold turnF; rw [cosF_half, show j + 128 - 64 = (j - 64) + 128 by omega, cosF_half]; simp
  have e2 : turnF (j + 256) = turnF j := by unfold turnF; rw [cosF_whole, show j + 256 - 64 = (j - 64) + 256 by omega, cosF_whole]
  have T1 := Lib.hid (fun w (h : CosW w) => ht j w h)
  have T2 := Lib.hid (fun w (h : CosW w) => ht (j + 128) w h)
  have T3 := Lib.hid (fun w (h : CosW w) => ht (j + 256) w h)
  rw [e1] at T2
  rw [e2] at T3
  unfold turnF pairAgg at T1 T3
  unfold pairAgg at T2
  simp only at T1 T2 T3
  have hl := cosF_length j
  have b1 := cosF_bd j
  have b2 := cosF_bd (j - 64)
  have hA := Lib.hid awake20
  clear ht e1 e2
  generalize cosF j = c at *
  generalize cosF (j - 64) = d at *
  have p1 := prod_le (a := 4096) (b := 4096) b1 b1
  have p2 := prod_le (a := 4096) (b := 4096) b2 b2
  have w1 : wrap64 (-c) = -c := IntWalk.wrap64_in _ (by omega)
  have w2 : wrap64 d = d := IntWalk.wrap64_in _ (by omega)
  have w3 : wrap64 (c * c) = c * c := IntWalk.wrap64_in _ (by omega)
  have w4 : wrap64 (-d * -d) = d * d := by rw [Int.neg_mul_neg]; exact IntWalk.wrap64_in _ (by omega)
  have w5 : wrap64 (c * c + d * d) = c * c + d * d := IntWalk.wrap64_in _ (by omega)
  obtain ⟨l1, l2⟩ := hl
  obtain ⟨j1, j2⟩ := hj
  clear b1 b2 p1 p2
  go_enter Tryd.func5, Tryd.ntmps5
  go_wp2_with (go_at_call 18; refine (hA.out _ ?_).mono ?_; exact hT.below (by (repeat' (first | (with_reducible exact Below.refl _ _) | (with_reducible assumption) | (with_reducible refine Below.alloc ?_ ?_ _) | (with_reducible refine below_grew ?_ ?_ _) | (with_reducible refine Below.setCell ?_ ?_ _) | (with_reducible refine Below.drew ?_) | omega | (simp; done) | (simp; omega)))); rintro e w' ⟨rfl, hb1⟩; obtain ⟨x1, rfl⟩ := below_as_grew hb1; clear hb1)
  refine (T1.out _ ?_).mono ?_
  · exact hT.below (by (repeat' (first | (with_reducible exact Below.refl _ _) | (with_reducible assumption) | (with_reducible refine Below.alloc ?_ ?_ _) | (with_reducible refine below_grew ?_ ?_ _) | (with_reducible refine Below.setCell ?_ ?_ _) | (with_reducible refine Below.drew ?_) | omega | (simp; done) | (simp; omega))))
  rintro e w' ⟨rfl, hb1⟩; obtain ⟨x1, rfl⟩ := below_as_grew hb1; clear hb1
  go_wp2_with fail
  refine (T2.out _ ?_).mono ?_
  · exact hT.below (by (repeat' (first | (with_reducible exact Below.refl _ _) | (with_reducible assumption) | (with_reducible refine Below.alloc ?_ ?_ _) | (with_reducible refine below_grew ?_ ?_ _) | (with_reducible refine Below.setCell ?_ ?_ _) | (with_reducible refine Below.drew ?_) | omega | (simp; done) | (simp; omega))))
  rintro e w' ⟨rfl, hb1⟩; obtain ⟨x1, rfl⟩ := below_as_grew hb1; clear hb1
  go_wp2_with fail
  refine (T3.out _ ?_).mono ?_
  · exact hT.below (by (repeat' (first | (with_reducible exact Below.refl _ _) | (with_reducible assumption) | (with_reducible refine Below.alloc ?_ ?_ _) | (with_reducible refine below_grew ?_ ?_ _) | (with_reducible refine Below.setCell ?_ ?_ _) | (with_reducible refine Below.drew ?_) | omega | (simp; done) | (simp; omega))))
  rintro e w' ⟨rfl, hb1⟩; obtain ⟨x1, rfl⟩ := below_as_grew hb1; clear hb1
  go_wp2_with fail
  go_ret
  exact ⟨rfl, by (repeat' (first | (with_reducible exact Below.refl _ _) | (with_reducible assumption) | (with_reducible refine Below.alloc ?_ ?_ _) | (with_reducible refine below_grew ?_ ?_ _) | (with_reducible refine Below.setCell ?_ ?_ _) | (with_reducible refine Below.drew ?_) | omega | (simp; done) | (simp; omega)))⟩
end Go.Proofs.YtmcjbejccelagaaDoor
