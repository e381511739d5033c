/-
  Turns (package cis): what each call comes to.
-/
import Derived.Test.YtmcjbejccelagaaDoorWide
namespace Go.Proofs.YtmcjbejccelagaaDoor
open Go.RowKit Go.BigFrame
set_option linter.unusedSimpArgs false

def cosL : List Int := [4096, 4095, 4091, 4085, 4076, 4065, 4052, 4036, 4017, 3996, 3973, 3948, 3920, 3889, 3857, 3822, 3784, 3745, 3703, 3659, 3612, 3564, 3513, 3461, 3406, 3349, 3290, 3229, 3166, 3102, 3035, 2967, 2896, 2824, 2751, 2675, 2598, 2520, 2440, 2359, 2276, 2191, 2106, 2019, 1931, 1842, 1751, 1660, 1567, 1474, 1380, 1285, 1189, 1092, 995, 897, 799, 700, 601, 501, 401, 301, 201, 101, 0]
def cosAt (j : Int) : Int := cosL.getD j.toNat 0
theorem cosAt_bd (j : Int) : 0 ≤ cosAt j ∧ cosAt j ≤ 4096 := by
  unfold cosAt
  have h : ∀ n : Nat, n < 65 → 0 ≤ cosL.getD n 0 ∧ cosL.getD n 0 ≤ 4096 := by decide
  by_cases hn : j.toNat < 65
  · exact h _ hn
  · rw [List.getD_eq_getElem?_getD, List.getElem?_eq_none (by show 65 ≤ j.toNat; omega)]; simp
/-- The cosine of a part of a turn, from 0 to 255. -/
def cosM (m : Int) : Int := if m ≤ 64 then cosAt m else if m ≤ 128 then -cosAt (128 - m) else if m < 192 then -cosAt (m - 128) else cosAt (256 - m)
def cosF (j : Int) : Int := cosM (j % 256)
theorem cosF_bd (j : Int) : -4096 ≤ cosF j ∧ cosF j ≤ 4096 := by
  unfold cosF cosM
  have h1 := cosAt_bd (j % 256)
  have h2 := cosAt_bd (128 - j % 256)
  have h3 := cosAt_bd (j % 256 - 128)
  have h4 := cosAt_bd (256 - j % 256)
  split
  · omega
  · split
    · omega
    · split <;> omega
abbrev CosW (w : World) : Prop := TabW 1 65 .i64 cosL w
theorem CosW.at {w : World} (h : CosW w) (j : Int) (h0 : 0 ≤ j) (h1 : j ≤ 64) : w.cell? ⟨1, j.toNat, none⟩ = some (.int .i64 (cosAt j)) := h.2 j.toNat (by omega)

theorem cosine_any (j : Int) (w : World) (hT : CosW w) :
    Calls Tryd.prog 58 #[.int .i64 j] w fun e w' => e = .returned (.int .i64 (cosF j)) ∧ w = w' := by
  have hc := fun i h0 h1 => hT.at i h0 h1
  have hm := i64_and255 j
  have h0 : 0 ≤ j % 256 := by omega
  have h1 : j % 256 ≤ 255 := by omega
  unfold cosF
  generalize j % 256 = m at *
  have hb : ∀ i, wrap64 (-cosAt i) = -cosAt i := fun i => IntWalk.wrap64_in _ (by have := cosAt_bd i; omega)
  by_cases t1 : m ≤ 64
  · have E := Lib.hid (show cosM m = cosAt m from by unfold cosM; rw [if_pos t1])
    have hc := hc (m) h0 t1
    go_enter Tryd.func58, Tryd.ntmps58
    go_wp2
    go_ret
    exact ⟨ret_int (by rw [E.out]), rfl⟩
  · skip
    by_cases t2 : m ≤ 128
    · have E := Lib.hid (show cosM m = -cosAt (128 - m) from by unfold cosM; rw [if_neg t1, if_pos t2])
      have hc := hc (128 - m) (by omega) (by omega)
      go_enter Tryd.func58, Tryd.ntmps58
      go_wp2
      go_ret
      exact ⟨ret_int (by rw [E.out]), rfl⟩
    · skip
      by_cases t3 : m < 192
      · have E := Lib.hid (show cosM m = -cosAt (128 - (256 - m)) from by unfold cosM; rw [if_neg t1, if_neg t2, if_pos t3, show m - 128 = 128 - (256 - m) from by omega])
        have hc := hc (m - 128) (by omega) (by omega)
        rw [show m - 128 = 128 - (256 - m) from by omega] at hc
        go_enter Tryd.func58, Tryd.ntmps58
        go_wp2
        go_ret
        exact ⟨ret_int (by rw [E.out]), rfl⟩
      · skip
        have E := Lib.hid (show cosM m = cosAt (256 - m) from by unfold cosM; rw [if_neg t1, if_neg t2, if_neg t3])
        have hc := hc (256 - m) (by omega) (by omega)
        go_enter Tryd.func58, Tryd.ntmps58
        go_wp2
        go_ret
        exact ⟨ret_int (by rw [E.out]), rfl⟩

/-- A pair, as a value. -/
def pairAgg (p : Int × Int) : Value := .agg #[.int .i64 p.1, .int .i64 p.2]
def turnF (j : Int) : Int × Int := (cosF j, -cosF (j - 64))
theorem cosF_mod (j : Int) : cosF (j % 256) = cosF j := by unfold cosF; rw [Int.emod_emod_of_dvd j (Int.dvd_refl 256)]
theorem cosF_mod' (j : Int) : cosF (j % 256 - 64) = cosF (j - 64) := by unfold cosF; congr 1; omega

theorem turn_any (j : Int) (w : World) (hT : CosW w) :
    Calls Tryd.prog 22 #[.int .i64 j] w fun e w' => e = .returned (pairAgg (turnF j)) ∧ Below w.heap.size w w' := by
  have hm := i64_and255 j
  have b0 : 0 ≤ j % 256 := by omega
  have b1 : j % 256 ≤ 255 := by omega
  have e1 := cosF_mod j
  have e2 := cosF_mod' j
  have hn : wrap64 (-cosF (j - 64)) = -cosF (j - 64) := IntWalk.wrap64_in _ (by have := cosF_bd (j - 64); omega)
  generalize j % 256 = m at *
  have E1 := Lib.hid e1
  have E2 := Lib.hid e2
  have En := Lib.hid hn
  clear e1 e2 hn
  go_enter Tryd.func22, Tryd.ntmps22
  go_wp2_with (go_at_call 58; refine (cosine_any _ _ ?_).mono ?_; exact hT.below (by (repeat' (first | (with_reducible exact Below.refl _ _) | (with_reducible assumption) | (with_reducible refine Below.alloc ?_ ?_ _) | (with_reducible refine below_grew ?_ ?_ _) | (with_reducible refine Below.setCell ?_ ?_ _) | (with_reducible refine Below.drew ?_) | (with_reducible refine below_drewN ?_ _) | omega | (simp; done) | (simp; omega)))); rintro e w' ⟨rfl, rfl⟩)
  refine bodyPost_ret (v := _) (by simp [results, Tryd.results22, go_sem]; rfl) rfl ⟨?_, ?_⟩
  · rw [E1.out, E2.out, En.out]; rfl
  · (repeat' (first | (with_reducible exact Below.refl _ _) | (with_reducible assumption) | (with_reducible refine Below.alloc ?_ ?_ _) | (with_reducible refine below_grew ?_ ?_ _) | (with_reducible refine Below.setCell ?_ ?_ _) | (with_reducible refine Below.drew ?_) | (with_reducible refine below_drewN ?_ _) | omega | (simp; done) | (simp; omega)))

def timesRe (a b c d : Int) : Int := wrap64 (wrap64 (a * c) - wrap64 (b * d))
def timesIm (a b c d : Int) : Int := wrap64 (wrap64 (a * d) + wrap64 (b * c))
theorem times_any (p q : Int × Int) (w : World) :
    Calls Tryd.prog 55 #[pairAgg p, pairAgg q] w fun e w' => e = .returned (pairAgg (timesRe p.1 p.2 q.1 q.2, timesIm p.1 p.2 q.1 q.2)) ∧ Below w.heap.size w w' := by
  obtain ⟨a, b⟩ := p
  obtain ⟨c, d⟩ := q
  unfold pairAgg
  go_enter Tryd.func55, Tryd.ntmps55
  go_wp2
  refine bodyPost_ret (v := _) (by simp [results, Tryd.results55, go_sem]; rfl) rfl ⟨?_, ?_⟩
  · rfl
  · (repeat' (first | (with_reducible exact Below.refl _ _) | (with_reducible assumption) | (with_reducible refine Below.alloc ?_ ?_ _) | (with_reducible refine below_grew ?_ ?_ _) | (with_reducible refine Below.setCell ?_ ?_ _) | (with_reducible refine Below.drew ?_) | (with_reducible refine below_drewN ?_ _) | omega | (simp; done) | (simp; omega)))
end Go.Proofs.YtmcjbejccelagaaDoor
