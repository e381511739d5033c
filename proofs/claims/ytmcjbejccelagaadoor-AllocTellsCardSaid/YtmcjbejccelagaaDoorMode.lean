/-
  Modes (package mode): right, bands, width; and a band's slope (package alloc).
-/
import Derived.Test.YtmcjbejccelagaaDoorKit
import Derived.Test.YtmcjbejccelagaaDoorProg
namespace Go.Proofs.YtmcjbejccelagaaDoor
open Go.RowKit Go.BigFrame
set_option linter.unusedSimpArgs false

abbrev RightP (s c : Int) : Prop := 0 ≤ s ∧ s < 3 ∧ 1 ≤ c ∧ c ≤ 2
def bandsF (s c : Int) : Int := if RightP s c then 3 + s else 0
def widL : List Int := [2, 2, 4, 8, 16]
def widthF (s c b : Int) : Int := if 0 ≤ b ∧ b < bandsF s c then widL.getD b.toNat 0 else 0
def slopeF (s c t b : Int) : Int := if widthF s c b = 0 then 0 else 64 / widthF s c b + (8 - min (max t 0) 7) * b
theorem bandsF_bd (s c : Int) : 0 ≤ bandsF s c ∧ bandsF s c ≤ 5 := by
  unfold bandsF
  split
  · omega
  · omega
theorem widthF_bd (s c b : Int) : widthF s c b = 0 ∨ (0 ≤ b ∧ b < 5 ∧ b < bandsF s c ∧ 2 ≤ widthF s c b ∧ widthF s c b ≤ 16) := by
  have hb := bandsF_bd s c
  unfold widthF
  split
  · rename_i h
    right
    have h5 : ∀ i : Fin 5, 2 ≤ widL.getD i.val 0 ∧ widL.getD i.val 0 ≤ 16 := by decide
    have := h5 ⟨b.toNat, by omega⟩
    simp only at this
    omega
  · exact .inl rfl
abbrev WidthW (w : World) : Prop := TabW 0 5 .i64 widL w
theorem WidthW.at {w : World} (h : WidthW w) (j : Int) (h0 : 0 ≤ j) (h1 : j < 5) : w.cell? ⟨0, j.toNat, none⟩ = some (.int .i64 (widL.getD j.toNat 0)) := h.2 j.toNat (by omega)

theorem modeRight (s c : Int) (w : World) : Calls Tryd.prog 40 #[.agg #[.int .i64 s, .int .i64 c]] w fun e w' => e = .returned (.bool (decide (RightP s c))) ∧ Below w.heap.size w w' := by
  by_cases h0 : 0 ≤ s
  · skip
    by_cases h1 : s < 3
    · skip
      by_cases h2 : 1 ≤ c
      · skip
        by_cases h3 : c ≤ 2
        · skip
          go_enter Tryd.func40, Tryd.ntmps40
          go_wp2
          go_ret
          exact ⟨ret_bool (by first | rfl | (simp; done) | (simp; omega)), by (repeat' (first | (with_reducible exact Below.refl _ _) | (with_reducible assumption) | (with_reducible refine Below.alloc ?_ ?_ _) | (with_reducible refine below_grew ?_ ?_ _) | (with_reducible refine Below.setCell ?_ ?_ _) | (with_reducible refine Below.drew ?_) | (with_reducible refine below_drewN ?_ _) | omega | (simp; done) | (simp; omega)))⟩
        · skip
          go_enter Tryd.func40, Tryd.ntmps40
          go_wp2
          go_ret
          exact ⟨ret_bool (by first | rfl | (simp; done) | (simp; omega)), by (repeat' (first | (with_reducible exact Below.refl _ _) | (with_reducible assumption) | (with_reducible refine Below.alloc ?_ ?_ _) | (with_reducible refine below_grew ?_ ?_ _) | (with_reducible refine Below.setCell ?_ ?_ _) | (with_reducible refine Below.drew ?_) | (with_reducible refine below_drewN ?_ _) | omega | (simp; done) | (simp; omega)))⟩
      · skip
        go_enter Tryd.func40, Tryd.ntmps40
        go_wp2
        go_ret
        exact ⟨ret_bool (by first | rfl | (simp; done) | (simp; omega)), by (repeat' (first | (with_reducible exact Below.refl _ _) | (with_reducible assumption) | (with_reducible refine Below.alloc ?_ ?_ _) | (with_reducible refine below_grew ?_ ?_ _) | (with_reducible refine Below.setCell ?_ ?_ _) | (with_reducible refine Below.drew ?_) | (with_reducible refine below_drewN ?_ _) | omega | (simp; done) | (simp; omega)))⟩
    · skip
      go_enter Tryd.func40, Tryd.ntmps40
      go_wp2
      go_ret
      exact ⟨ret_bool (by first | rfl | (simp; done) | (simp; omega)), by (repeat' (first | (with_reducible exact Below.refl _ _) | (with_reducible assumption) | (with_reducible refine Below.alloc ?_ ?_ _) | (with_reducible refine below_grew ?_ ?_ _) | (with_reducible refine Below.setCell ?_ ?_ _) | (with_reducible refine Below.drew ?_) | (with_reducible refine below_drewN ?_ _) | omega | (simp; done) | (simp; omega)))⟩
  · skip
    go_enter Tryd.func40, Tryd.ntmps40
    go_wp2
    go_ret
    exact ⟨ret_bool (by first | rfl | (simp; done) | (simp; omega)), by (repeat' (first | (with_reducible exact Below.refl _ _) | (with_reducible assumption) | (with_reducible refine Below.alloc ?_ ?_ _) | (with_reducible refine below_grew ?_ ?_ _) | (with_reducible refine Below.setCell ?_ ?_ _) | (with_reducible refine Below.drew ?_) | (with_reducible refine below_drewN ?_ _) | omega | (simp; done) | (simp; omega)))⟩

theorem modeBands (s c : Int) (w : World) : Calls Tryd.prog 37 #[.agg #[.int .i64 s, .int .i64 c]] w fun e w' => e = .returned (.int .i64 (bandsF s c)) ∧ Below w.heap.size w w' := by
  have hr := Lib.hid (fun w => modeRight s c w)
  by_cases h : RightP s c
  · have E := Lib.hid (show bandsF s c = 3 + s from by unfold bandsF; rw [if_pos h])
    rw [decide_eq_true h] at hr
    obtain ⟨h1, h2, _, _⟩ := h
    go_enter Tryd.func37, Tryd.ntmps37
    go_wp2_with (go_at_call 40; refine (hr.out _).mono ?_; rintro e w' ⟨rfl, hb1⟩; obtain ⟨x1, rfl⟩ := below_as_grew hb1; clear hb1)
    go_ret
    exact ⟨ret_int E.out.symm, by (repeat' (first | (with_reducible exact Below.refl _ _) | (with_reducible assumption) | (with_reducible refine Below.alloc ?_ ?_ _) | (with_reducible refine below_grew ?_ ?_ _) | (with_reducible refine Below.setCell ?_ ?_ _) | (with_reducible refine Below.drew ?_) | (with_reducible refine below_drewN ?_ _) | omega | (simp; done) | (simp; omega)))⟩
  · have E := Lib.hid (show bandsF s c = 0 from by unfold bandsF; rw [if_neg h])
    rw [decide_eq_false h] at hr
    clear h
    go_enter Tryd.func37, Tryd.ntmps37
    go_wp2_with (go_at_call 40; refine (hr.out _).mono ?_; rintro e w' ⟨rfl, hb1⟩; obtain ⟨x1, rfl⟩ := below_as_grew hb1; clear hb1)
    go_ret
    exact ⟨ret_int E.out.symm, by (repeat' (first | (with_reducible exact Below.refl _ _) | (with_reducible assumption) | (with_reducible refine Below.alloc ?_ ?_ _) | (with_reducible refine below_grew ?_ ?_ _) | (with_reducible refine Below.setCell ?_ ?_ _) | (with_reducible refine Below.drew ?_) | (with_reducible refine below_drewN ?_ _) | omega | (simp; done) | (simp; omega)))⟩

theorem modeHas (s c b : Int) (w : World) : Calls Tryd.prog 68 #[.agg #[.int .i64 s, .int .i64 c], .int .i64 b] w fun e w' => e = .returned (.bool (decide (0 ≤ b ∧ b < bandsF s c))) ∧ Below w.heap.size w w' := by
  have hb := Lib.hid (fun w => modeBands s c w)
  by_cases h : 0 ≤ b
  · by_cases h2 : b < bandsF s c
    · skip
      go_enter Tryd.func68, Tryd.ntmps68
      go_wp2_with (go_at_call 37; refine (hb.out _).mono ?_; rintro e w' ⟨rfl, hb1⟩; obtain ⟨x1, rfl⟩ := below_as_grew hb1; clear hb1)
      go_ret
      exact ⟨ret_bool (by first | rfl | (simp; done) | (simp; omega)), by (repeat' (first | (with_reducible exact Below.refl _ _) | (with_reducible assumption) | (with_reducible refine Below.alloc ?_ ?_ _) | (with_reducible refine below_grew ?_ ?_ _) | (with_reducible refine Below.setCell ?_ ?_ _) | (with_reducible refine Below.drew ?_) | (with_reducible refine below_drewN ?_ _) | omega | (simp; done) | (simp; omega)))⟩
    · skip
      go_enter Tryd.func68, Tryd.ntmps68
      go_wp2_with (go_at_call 37; refine (hb.out _).mono ?_; rintro e w' ⟨rfl, hb1⟩; obtain ⟨x1, rfl⟩ := below_as_grew hb1; clear hb1)
      go_ret
      exact ⟨ret_bool (by first | rfl | (simp; done) | (simp; omega)), by (repeat' (first | (with_reducible exact Below.refl _ _) | (with_reducible assumption) | (with_reducible refine Below.alloc ?_ ?_ _) | (with_reducible refine below_grew ?_ ?_ _) | (with_reducible refine Below.setCell ?_ ?_ _) | (with_reducible refine Below.drew ?_) | (with_reducible refine below_drewN ?_ _) | omega | (simp; done) | (simp; omega)))⟩
  · skip
    go_enter Tryd.func68, Tryd.ntmps68
    go_wp2
    go_ret
    exact ⟨ret_bool (by first | rfl | (simp; done) | (simp; omega)), by (repeat' (first | (with_reducible exact Below.refl _ _) | (with_reducible assumption) | (with_reducible refine Below.alloc ?_ ?_ _) | (with_reducible refine below_grew ?_ ?_ _) | (with_reducible refine Below.setCell ?_ ?_ _) | (with_reducible refine Below.drew ?_) | (with_reducible refine below_drewN ?_ _) | omega | (simp; done) | (simp; omega)))⟩

theorem modeWidth (s c b : Int) (w : World) (hT : WidthW w) : Calls Tryd.prog 39 #[.agg #[.int .i64 s, .int .i64 c], .int .i64 b] w fun e w' => e = .returned (.int .i64 (widthF s c b)) ∧ Below w.heap.size w w' := by
  have hh := Lib.hid (fun w => modeHas s c b w)
  have hbd := bandsF_bd s c
  by_cases h : 0 ≤ b ∧ b < bandsF s c
  · have E := Lib.hid (show widthF s c b = widL.getD b.toNat 0 from by unfold widthF; rw [if_pos h])
    have hc := hT.at b h.1 (by omega)
    have hg := hT.1
    generalize widL.getD b.toNat 0 = x at *
    rw [decide_eq_true h] at hh
    obtain ⟨h1, h2⟩ := h
    have h5 : b < 5 := by omega
    clear hT hbd h2
    go_enter Tryd.func39, Tryd.ntmps39
    go_wp2_with (go_at_call 68; refine (hh.out _).mono ?_; rintro e w' ⟨rfl, hb1⟩; obtain ⟨x1, rfl⟩ := below_as_grew hb1; clear hb1)
    go_ret
    exact ⟨ret_int E.out.symm, by (repeat' (first | (with_reducible exact Below.refl _ _) | (with_reducible assumption) | (with_reducible refine Below.alloc ?_ ?_ _) | (with_reducible refine below_grew ?_ ?_ _) | (with_reducible refine Below.setCell ?_ ?_ _) | (with_reducible refine Below.drew ?_) | (with_reducible refine below_drewN ?_ _) | omega | (simp; done) | (simp; omega)))⟩
  · have E := Lib.hid (show widthF s c b = 0 from by unfold widthF; rw [if_neg h])
    rw [decide_eq_false h] at hh
    clear h hT hbd
    go_enter Tryd.func39, Tryd.ntmps39
    go_wp2_with (go_at_call 68; refine (hh.out _).mono ?_; rintro e w' ⟨rfl, hb1⟩; obtain ⟨x1, rfl⟩ := below_as_grew hb1; clear hb1)
    go_ret
    exact ⟨ret_int E.out.symm, by (repeat' (first | (with_reducible exact Below.refl _ _) | (with_reducible assumption) | (with_reducible refine Below.alloc ?_ ?_ _) | (with_reducible refine below_grew ?_ ?_ _) | (with_reducible refine Below.setCell ?_ ?_ _) | (with_reducible refine Below.drew ?_) | (with_reducible refine below_drewN ?_ _) | omega | (simp; done) | (simp; omega)))⟩
end Go.Proofs.YtmcjbejccelagaaDoor
