/-
  The band whose next pulse has the least level (package alloc).
-/
import Derived.Test.YtmcjbejccelagaaDoorTotal
namespace Go.Proofs.YtmcjbejccelagaaDoor
open Go.RowKit Go.BigFrame Go.Vec Go.Cost
set_option linter.unusedSimpArgs false

/-- Of the first n bands: the best one, and its level. -/
def bestTo (s c t : Int) (l : List Int) : Nat → Int × Int
  | 0 => (-1, 0)
  | n + 1 =>
    let p := bestTo s c t l n
    if capF (widthF s c n) ≤ l.getD n 0 then p
    else if p.1 < 0 ∨ (l.getD n 0 + 1) * slopeF s c t n < p.2 then ((n : Int), (l.getD n 0 + 1) * slopeF s c t n) else p
def bestF (s c t : Int) (l : List Int) : Int := (bestTo s c t l (bandsF s c).toNat).1
theorem level_bd (x y : Int) (hx : 0 ≤ x ∧ x ≤ 32) (hy : 0 ≤ y ∧ y ≤ 64) : 0 ≤ (x + 1) * y ∧ (x + 1) * y ≤ 2112 :=
  ⟨Int.mul_nonneg (by omega) hy.1, Int.le_trans (Int.mul_le_mul (show x + 1 ≤ 33 by omega) hy.2 hy.1 (by omega)) (by omega)⟩
theorem bestTo_bd (s c t : Int) (l : List Int) : ∀ n : Nat, -1 ≤ (bestTo s c t l n).1 ∧ (bestTo s c t l n).1 < n
  | 0 => by simp [bestTo]
  | n + 1 => by
    have h := bestTo_bd s c t l n
    simp only [bestTo]
    split
    · omega
    · split
      · simp only; omega
      · omega

theorem best_any (s c t : Int) (k0 k1 k2 k3 k4 : Int) (hk : ∀ n, n < 5 → 0 ≤ [k0, k1, k2, k3, k4].getD n 0 ∧ [k0, k1, k2, k3, k4].getD n 0 ≤ 32) (b m : Nat) (w : World) (hB : Book b m w) (hT : WidthW w) :
    Calls Tryd.prog 63 #[.pointer (some ⟨b, 0, none⟩), .agg #[.int .i64 s, .int .i64 c], .int .i64 t, .agg #[.int .i64 k0, .int .i64 k1, .int .i64 k2, .int .i64 k3, .int .i64 k4]] w fun e w' => e = .returned (.int .i64 (bestF s c t [k0, k1, k2, k3, k4])) ∧ Bk m w w' := by
  obtain ⟨l, hl⟩ : ∃ l, l = [k0, k1, k2, k3, k4] := ⟨_, rfl⟩
  obtain ⟨W, hW⟩ : ∃ W, W = (w.alloc (.cells #[.int .i64 s, .int .i64 c] 33)).alloc (.cells #[.int .i64 k0, .int .i64 k1, .int .i64 k2, .int .i64 k3, .int .i64 k4] 22) := ⟨_, rfl⟩
  have hx : ∀ n, n < 5 → W.cell? ⟨w.heap.size + 1, n, none⟩ = some (.int .i64 (l.getD n 0)) := fun n hn => by
    have : n = 0 ∨ n = 1 ∨ n = 2 ∨ n = 3 ∨ n = 4 := by omega
    subst hl hW
    rcases this with rfl | rfl | rfl | rfl | rfl <;> simp [go_sem]
  rw [← hl] at hk ⊢
  have hWi : BkInv m w W := by subst hW; exact (hB.refl.alloc _).alloc _
  have hBW := hB.inv hWi
  have hTW := hT.inv hB hWi
  obtain ⟨y0, hy0⟩ := bkInv_as hBW.refl
  have HX := Lib.hid hx
  have HK := Lib.hid hk
  have hbands := Lib.hid (fun y => modeBands s c (W.bkd m y))
  have hwid := Lib.hid (fun n y => modeWidth s c n (W.bkd m y) (hTW.inv hBW (hBW.refl.bkd y)))
  have hslo := Lib.hid (fun n y => slope_any s c t n (W.bkd m y) (hTW.inv hBW (hBW.refl.bkd y)))
  have hcap := Lib.hid (fun n => cap_any hBW n)
  have hml := hB.lt_m
  have c1 : W.cell? ⟨w.heap.size, 0, none⟩ = some (.int .i64 s) := by subst hW; simp [go_sem]
  have c2 : W.cell? ⟨w.heap.size, 1, none⟩ = some (.int .i64 c) := by subst hW; simp [go_sem]
  have d1 : w.heap.size < W.heap.size := by subst hW; simp; omega
  have d4 : w.heap.size + 1 < W.heap.size := by subst hW; simp
  have d2 : m ≠ w.heap.size := by omega
  have d5 : m ≠ w.heap.size + 1 := by omega
  have d3 : m < W.heap.size := by omega
  have hbd := bandsF_bd s c
  have hbN : bandsF s c = ((bandsF s c).toNat : Nat) := by omega
  have E := Lib.hid (show bestF s c t l = (bestTo s c t l (bandsF s c).toNat).1 from rfl)
  have hA := hy0
  rw [hW] at hA
  have HA := Lib.hid hA
  have HW := Lib.hid hW
  clear hl hx hW hA hy0 hk
  generalize bandsF s c = nb at *
  generalize nb.toNat = NB at *
  have hNB : NB ≤ 5 := by omega
  subst hbN
  go_enter Tryd.func63, Tryd.ntmps63
  go_wp2_with fail
  rw [HA.out]
  rw [← HW.out]
  refine ((hbands.out _).bkd_of_below).mono ?_
  rintro e w' ⟨rfl, y1, rfl⟩
  go_wp2_with fail
  go_loopw [9, 10, 15] (fun out least cnt wr => ∃ n : Nat, n ≤ NB ∧ cnt = .int .i64 n ∧ out = .int .i64 (bestTo s c t l n).1 ∧ least = .int .i64 (bestTo s c t l n).2 ∧ ∃ y, wr = W.bkd m y) (fun _ _ cnt _ => NB - (intOf cnt).toNat)
  case atStart => exact ⟨0, by omega, rfl, rfl, rfl, y1, rfl⟩
  case round =>
    obtain ⟨n, hn, rfl, rfl, rfl, y, rfl⟩ := hrel
    by_cases hlt : n < NB
    · have hlt' : (n : Int) < (NB : Int) := by omega
      have hx := HX.out n (by omega)
      have hk := HK.out n (by omega)
      have hp := bestTo_bd s c t l n
      have hn5 : (n : Int) < 5 := by omega
      by_cases hc : capF (widthF s c n) ≤ l.getD n 0
      · have E1 := Lib.hid (show bestTo s c t l (n + 1) = bestTo s c t l n from by simp only [bestTo, if_pos hc])
        generalize l.getD n 0 = kn at *
        go_wp2_with fail
        refine wp_region_bkd_all (by kernel_rfl) (by kernel_rfl) ?_
        repeat (go_big_quiet_step (first | (go_at_call 39; exact Calls.bkd_of_below (hwid.out _ _)) | (go_at_call 83; exact hcap.out _ _)))
        refine wpQuiet_nil ?_
        rintro _ ⟨x, rfl⟩
        go_wp2
        go_roundw
        case rel => exact ⟨n + 1, by omega, by go_num, by rw [E1.out], by rw [E1.out], _, rfl⟩
        case measure => simp [intOf]; omega
      · have hsl := slopeF_bd s c t n
        have hlev := level_bd _ _ hk hsl
        by_cases hb1 : (bestTo s c t l n).1 < 0
        · have E1 := Lib.hid (show bestTo s c t l (n + 1) = ((n : Int), (l.getD n 0 + 1) * slopeF s c t n) from by simp only [bestTo, if_neg hc, if_pos (Or.inl hb1)])
          generalize l.getD n 0 = kn at *
          go_wp2_with fail
          refine wp_region_bkd_all (by kernel_rfl) (by kernel_rfl) ?_
          repeat (go_big_quiet_step (first | (go_at_call 39; exact Calls.bkd_of_below (hwid.out _ _)) | (go_at_call 83; exact hcap.out _ _)))
          refine wpQuiet_nil ?_
          rintro _ ⟨x, rfl⟩
          go_wp2_with fail
          refine wp_region_bkd_all (by kernel_rfl) (by kernel_rfl) ?_
          repeat (go_big_quiet_step (first | (go_at_call 32; exact Calls.bkd_of_below (hslo.out _ _))))
          refine wpQuiet_nil ?_
          rintro _ ⟨x, rfl⟩
          go_wp2
          go_roundw
          case rel => exact ⟨n + 1, by omega, by go_num, by rw [E1.out], by rw [E1.out], _, rfl⟩
          case measure => simp [intOf]; omega
        · by_cases hb2 : (l.getD n 0 + 1) * slopeF s c t n < (bestTo s c t l n).2
          · have E1 := Lib.hid (show bestTo s c t l (n + 1) = ((n : Int), (l.getD n 0 + 1) * slopeF s c t n) from by simp only [bestTo, if_neg hc, if_pos (Or.inr hb2)])
            generalize l.getD n 0 = kn at *
            go_wp2_with fail
            refine wp_region_bkd_all (by kernel_rfl) (by kernel_rfl) ?_
            repeat (go_big_quiet_step (first | (go_at_call 39; exact Calls.bkd_of_below (hwid.out _ _)) | (go_at_call 83; exact hcap.out _ _)))
            refine wpQuiet_nil ?_
            rintro _ ⟨x, rfl⟩
            go_wp2_with fail
            refine wp_region_bkd_all (by kernel_rfl) (by kernel_rfl) ?_
            repeat (go_big_quiet_step (first | (go_at_call 32; exact Calls.bkd_of_below (hslo.out _ _))))
            refine wpQuiet_nil ?_
            rintro _ ⟨x, rfl⟩
            go_wp2
            go_roundw
            case rel => exact ⟨n + 1, by omega, by go_num, by rw [E1.out], by rw [E1.out], _, rfl⟩
            case measure => simp [intOf]; omega
          · have E1 := Lib.hid (show bestTo s c t l (n + 1) = bestTo s c t l n from by simp only [bestTo, if_neg hc, if_neg (not_or.2 ⟨hb1, hb2⟩)])
            generalize l.getD n 0 = kn at *
            go_wp2_with fail
            refine wp_region_bkd_all (by kernel_rfl) (by kernel_rfl) ?_
            repeat (go_big_quiet_step (first | (go_at_call 39; exact Calls.bkd_of_below (hwid.out _ _)) | (go_at_call 83; exact hcap.out _ _)))
            refine wpQuiet_nil ?_
            rintro _ ⟨x, rfl⟩
            go_wp2_with fail
            refine wp_region_bkd_all (by kernel_rfl) (by kernel_rfl) ?_
            repeat (go_big_quiet_step (first | (go_at_call 32; exact Calls.bkd_of_below (hslo.out _ _))))
            refine wpQuiet_nil ?_
            rintro _ ⟨x, rfl⟩
            go_wp2
            go_roundw
            case rel => exact ⟨n + 1, by omega, by go_num, by rw [E1.out], by rw [E1.out], _, rfl⟩
            case measure => simp [intOf]; omega
    · have hlt' : ¬(n : Int) < (NB : Int) := by omega
      have hn5 : n = NB := by omega
      rw [← hn5] at E
      clear hn5
      go_wp2
      go_ret
      exact ⟨ret_int E.out.symm, bkInv_as (hWi.bkd _)⟩
end Go.Proofs.YtmcjbejccelagaaDoor
