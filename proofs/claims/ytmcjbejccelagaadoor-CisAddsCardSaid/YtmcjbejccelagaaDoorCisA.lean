/-
  The law's example (spinetlaw20.awake).
-/
import Derived.Test.YtmcjbejccelagaaDoorCisL
namespace Go.Proofs.YtmcjbejccelagaaDoor
open Go.RowKit Go.BigFrame
set_option linter.unusedSimpArgs false

/-- The cells of an owned row. -/
theorem owns_cells {w : World} {base : Nat} {e : TypeId} {size n : Nat} {v : Value} {xs : List Value} (h : w.ownsRow base e size v n xs) (hn : 0 < n) :
    ∃ g c, v = .slice (some ⟨g, 0, none⟩) n c ∧ g < w.heap.size ∧ base ≤ g ∧ ∀ j, j < n * size → w.cell? ⟨g, j, none⟩ = xs[j]? := by
  obtain ⟨h1, h2⟩ := h
  rcases h2 with ⟨_, h2⟩ | ⟨g, cap, cur, hv, hg, hh, hc1, hc2, hc3, hc4⟩
  · omega
  · refine ⟨g, cap, hv, (Array.getElem?_eq_some_iff.1 hh).1, hg, fun j hj => ?_⟩
    rw [cell_of_row w g j cur e _ hh, ← hc4, List.getElem?_take, if_pos hj]
    simp

theorem awake20 (w : World) (hT : CosW w) :
    Calls Tryd.prog 18 #[] w fun e w' => e = .returned (.bool true) ∧ Below w.heap.size w w' := by
  have ht : ∀ w, CosW w → Calls Tryd.prog 22 #[.int .i64 64] w fun e w' => e = .returned (.agg #[.int .i64 0, .int .i64 (-4096)]) ∧ Below w.heap.size w w' := by
    intro w hT
    have h := turn_any 64 w hT
    have e : turnF 64 = (0, -4096) := by decide
    rw [e] at h
    exact h
  have ho : ∀ x w, In64 x → Calls Tryd.prog 54 #[.int .i64 x] w fun e w' => e = .returned (.agg #[.int .i64 (accHi x), .int .u64 (accLo x)]) ∧ Below w.heap.size w w' := fun x w h => of_any x h w
  have HTn := Lib.hid ht
  have HO := Lib.hid ho
  have i1 : In64 4096 := by unfold In64; omega
  have i2 : In64 (-4096) := by unfold In64; omega
  clear ht ho
  go_enter Tryd.func18, Tryd.ntmps18
  go_wp2_with fail
  refine (direct_yes 1 (by decide) [(1, 0), (0, 1)] rfl (by unfold In64; decide) (w.heap.size) 0 2 _ ?_ ?_ ?_).mono ?_
  · exact hT.below (by (repeat' (first | (with_reducible exact Below.refl _ _) | (with_reducible assumption) | (with_reducible refine Below.alloc ?_ ?_ _) | (with_reducible refine below_grew ?_ ?_ _) | (with_reducible refine Below.setCell ?_ ?_ _) | (with_reducible refine Below.drew ?_) | (with_reducible refine below_drewN ?_ _) | omega | (simp; done) | (simp; omega))))
  · simp
  · intro j hj
    have : j = 0 ∨ j = 1 := by simp at hj; omega
    rcases this with rfl | rfl <;> simp [go_sem]
  rintro e w' ⟨v, rfl, hown, hb1⟩
  obtain ⟨g, c, rfl, hg, -, hc⟩ := owns_cells hown (by decide)
  have c0 := hc 0 (by decide)
  have c1 := hc 1 (by decide)
  have c2 := hc 2 (by decide)
  have c3 := hc 3 (by decide)
  have c4 := hc 4 (by decide)
  have c5 := hc 5 (by decide)
  have c6 := hc 6 (by decide)
  have c7 := hc 7 (by decide)
  have hd : (directF 1 [(1, 0), (0, 1)]).flatMap bigCells = [.int .i64 (accHi 4096), .int .u64 (accLo 4096), .int .i64 (accHi 4096), .int .u64 (accLo 4096), .int .i64 (accHi 4096), .int .u64 (accLo 4096), .int .i64 (accHi (-4096)), .int .u64 (accLo (-4096))] := rfl
  rw [hd] at c0 c1 c2 c3 c4 c5 c6 c7
  simp only [List.getElem?_cons_zero, List.getElem?_cons_succ] at c0 c1 c2 c3 c4 c5 c6 c7
  have hT1 : CosW w' := (hT.below (by (repeat' (first | (with_reducible exact Below.refl _ _) | (with_reducible assumption) | (with_reducible refine Below.alloc ?_ ?_ _) | (with_reducible refine below_grew ?_ ?_ _) | (with_reducible refine Below.setCell ?_ ?_ _) | (with_reducible refine Below.drew ?_) | (with_reducible refine below_drewN ?_ _) | omega | (simp; done) | (simp; omega)))) : CosW _).below hb1
  have hB : Below w.heap.size w w' := Below.trans (by (repeat' (first | (with_reducible exact Below.refl _ _) | (with_reducible assumption) | (with_reducible refine Below.alloc ?_ ?_ _) | (with_reducible refine below_grew ?_ ?_ _) | (with_reducible refine Below.setCell ?_ ?_ _) | (with_reducible refine Below.drew ?_) | (with_reducible refine below_drewN ?_ _) | omega | (simp; done) | (simp; omega)))) (hb1.mono (by simp))
  clear hc hd hown hb1
  go_wp2_with fail
  first | refine wp_region_grew2 26 (by kernel_rfl) (by kernel_rfl) ?_ | refine wp_region_grew 26 (by kernel_rfl) (by kernel_rfl) ?_
  simp only [List.take_succ_cons, List.take_zero, List.drop_succ_cons, List.drop_zero]
  repeat (go_big_quiet_step (first | (go_at_call 22; refine Calls.grew_of (HTn.out _ ?_); exact hT1.below (by (repeat' (first | (with_reducible exact Below.refl _ _) | (with_reducible assumption) | (with_reducible refine Below.alloc ?_ ?_ _) | (with_reducible refine below_grew ?_ ?_ _) | (with_reducible refine Below.setCell ?_ ?_ _) | (with_reducible refine Below.drew ?_) | (with_reducible refine below_drewN ?_ _) | omega | (simp; done) | (simp; omega))))) | (go_at_call 54; refine Calls.grew_of (HO.out _ _ ?_); assumption)))
  refine wpQuiet_nil ?_
  rintro _ ⟨x, rfl⟩
  go_wp2
  go_ret
  exact ⟨rfl, below_grew hB (hB.size) _⟩
end Go.Proofs.YtmcjbejccelagaaDoor
