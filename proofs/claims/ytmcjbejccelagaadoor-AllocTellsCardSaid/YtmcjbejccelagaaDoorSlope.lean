/-
  A band's slope (package alloc).
-/
import Derived.Test.YtmcjbejccelagaaDoorMode
namespace Go.Proofs.YtmcjbejccelagaaDoor
open Go.RowKit Go.BigFrame
set_option linter.unusedSimpArgs false

theorem quo64 (x : Int) (h : 2 ≤ x) : 0 ≤ 64 / x ∧ 64 / x ≤ 32 := by
  refine ⟨Int.ediv_nonneg (by omega) (by omega), ?_⟩
  have h1 : 64 / x < 33 := Int.ediv_lt_of_lt_mul (by omega) (by omega)
  omega
theorem slopeF_bd (s c t b : Int) : 0 ≤ slopeF s c t b ∧ slopeF s c t b ≤ 64 := by
  unfold slopeF
  split
  · omega
  · rename_i h
    rcases widthF_bd s c b with h' | ⟨b0, b5, _, h2, h16⟩
    · exact absurd h' h
    · have := quo64 _ h2
      have : b = 0 ∨ b = 1 ∨ b = 2 ∨ b = 3 ∨ b = 4 := by omega
      rcases this with rfl | rfl | rfl | rfl | rfl <;> omega

theorem slope_any (s c t b : Int) (w : World) (hT : WidthW w) : Calls Tryd.prog 32 #[.agg #[.int .i64 s, .int .i64 c], .int .i64 t, .int .i64 b] w fun e w' => e = .returned (.int .i64 (slopeF s c t b)) ∧ Below w.heap.size w w' := by
  have hw := Lib.hid (fun w hT => modeWidth s c b w hT)
  have HT := Lib.hid hT
  have hg := hT.1
  rcases widthF_bd s c b with h0 | ⟨b0, b5, _, h2, h16⟩
  · have E := Lib.hid (show slopeF s c t b = 0 from by unfold slopeF; rw [if_pos h0])
    rw [h0] at hw
    clear hT
    go_enter Tryd.func32, Tryd.ntmps32
    go_wp2_with (go_at_call 39; refine (hw.out _ (HT.out.below (by (repeat' (first | (with_reducible exact Below.refl _ _) | (with_reducible assumption) | (with_reducible refine Below.alloc ?_ ?_ _) | (with_reducible refine below_grew ?_ ?_ _) | (with_reducible refine Below.setCell ?_ ?_ _) | (with_reducible refine Below.drew ?_) | (with_reducible refine below_drewN ?_ _) | omega | (simp; done) | (simp; omega)))))).mono ?_; rintro e w' ⟨rfl, hb1⟩; obtain ⟨x1, rfl⟩ := below_as_grew hb1; clear hb1)
    go_ret
    exact ⟨ret_int E.out.symm, by (repeat' (first | (with_reducible exact Below.refl _ _) | (with_reducible assumption) | (with_reducible refine Below.alloc ?_ ?_ _) | (with_reducible refine below_grew ?_ ?_ _) | (with_reducible refine Below.setCell ?_ ?_ _) | (with_reducible refine Below.drew ?_) | (with_reducible refine below_drewN ?_ _) | omega | (simp; done) | (simp; omega)))⟩
  · have hq := quo64 _ h2
    have hne : (widthF s c b == 0) = false := by rw [beq_eq_false_iff_ne]; omega
    have hne' : ¬widthF s c b = 0 := by omega
    clear hT
    have hb : b = 0 ∨ b = 1 ∨ b = 2 ∨ b = 3 ∨ b = 4 := by omega
    have E := Lib.hid (show slopeF s c t b = 64 / widthF s c b + (8 - min (max t 0) 7) * b from by unfold slopeF; rw [if_neg hne'])
    generalize widthF s c b = x at *
    rcases hb with rfl | rfl | rfl | rfl | rfl
    all_goals
      go_enter Tryd.func32, Tryd.ntmps32
      go_wp2_with (go_at_call 39; refine (hw.out _ (HT.out.below (by (repeat' (first | (with_reducible exact Below.refl _ _) | (with_reducible assumption) | (with_reducible refine Below.alloc ?_ ?_ _) | (with_reducible refine below_grew ?_ ?_ _) | (with_reducible refine Below.setCell ?_ ?_ _) | (with_reducible refine Below.drew ?_) | (with_reducible refine below_drewN ?_ _) | omega | (simp; done) | (simp; omega)))))).mono ?_; rintro e w' ⟨rfl, hb1⟩; obtain ⟨x1, rfl⟩ := below_as_grew hb1; clear hb1)
      go_ret
      exact ⟨ret_int (by first | (rw [E.out]; done) | (rw [E.out]; omega)), by (repeat' (first | (with_reducible exact Below.refl _ _) | (with_reducible assumption) | (with_reducible refine Below.alloc ?_ ?_ _) | (with_reducible refine below_grew ?_ ?_ _) | (with_reducible refine Below.setCell ?_ ?_ _) | (with_reducible refine Below.drew ?_) | (with_reducible refine below_drewN ?_ _) | omega | (simp; done) | (simp; omega)))⟩
end Go.Proofs.YtmcjbejccelagaaDoor
