/-
  What the document says of modes, slopes and totals (packages spinetref05, spinetref14).
-/
import Derived.Test.YtmcjbejccelagaaDoorCostRD
import Derived.Test.YtmcjbejccelagaaDoorAllocF
namespace Go.Proofs.YtmcjbejccelagaaDoor
open Go.RowKit Go.BigFrame Go.Vec Go.Cost Go.Proofs.YtmcjbejccelagaaDoorW.PrintWords
open RAllocTells
set_option linter.unusedSimpArgs false

theorem drawn_below {w w' : World} (h : Drawn0 w w') : Below w.heap.size w w' := by
  obtain ⟨n, rfl⟩ := h.out
  exact below_drewN (Below.refl _ _) _
theorem refRight (s c : Int) (w : World) : Calls Tryd.prog 29 #[.int .i64 s, .int .i64 c] w fun e w' => e = .returned (.bool (decide (RightP s c))) ∧ Below w.heap.size w w' := by
  refine (spinetref05_Right.calls s c (decide (RightP s c)) w ?_).mono fun e w' ⟨he, h⟩ => ⟨he, drawn_below h⟩
  unfold spinetref05_Right.f RightP
  by_cases h0 : s ≥ 0
  · rw [if_pos h0]
    by_cases h1 : s ≤ 2
    · rw [if_pos h1]
      by_cases h2 : c = 1
      · rw [if_pos h2, decide_eq_true (show 0 ≤ s ∧ s < 3 ∧ 1 ≤ c ∧ c ≤ 2 by omega)]
      · rw [if_neg h2]
        congr 1
        rw [Bool.eq_iff_iff, beq_iff_eq, decide_eq_true_eq]
        omega
    · rw [if_neg h1, decide_eq_false (show ¬(0 ≤ s ∧ s < 3 ∧ 1 ≤ c ∧ c ≤ 2) by omega)]
  · rw [if_neg h0, decide_eq_false (show ¬(0 ≤ s ∧ s < 3 ∧ 1 ≤ c ∧ c ≤ 2) by omega)]
theorem refBands (s c : Int) (hR : RightP s c) (w : World) : Calls Tryd.prog 33 #[.int .i64 s] w fun e w' => e = .returned (.int .i64 (bandsF s c)) ∧ Below w.heap.size w w' := by
  refine (spinetref05_Bands.calls s (bandsF s c) w ?_).mono fun e w' ⟨he, h⟩ => ⟨he, drawn_below h⟩
  unfold spinetref05_Bands.f bandsF
  rw [if_pos hR]
  unfold RightP at hR
  unfold wrap64
  congr 1
  omega
def fromL : List Int := [0, 2, 4, 8, 16]
theorem refBand (b : Nat) (hb : b < 5) (w : World) : Calls Tryd.prog 64 #[.int .i64 b] w fun e w' => e = .returned (.tuple #[.int .i64 (fromL.getD b 0), .int .i64 (widL.getD b 0)]) ∧ Below w.heap.size w w' := by
  refine (spinetref05_Band.calls 10 b (fromL.getD b 0) (widL.getD b 0) w ?_).mono fun e w' ⟨he, h⟩ => ⟨he, drawn_below h⟩
  have : b = 0 ∨ b = 1 ∨ b = 2 ∨ b = 3 ∨ b = 4 := by omega
  rcases this with rfl | rfl | rfl | rfl | rfl <;> decide +kernel
theorem refSlope (t : Int) (b : Nat) (hb : b < 5) (w : World) : Calls Tryd.prog 34 #[.int .i64 t, .int .i64 b] w fun e w' => e = .returned (.int .i64 (slopeR t b)) ∧ Below w.heap.size w w' := by
  have hB := Lib.hid (fun w => refBand b hb w)
  have h5 : ∀ i : Fin 5, 2 ≤ widL.getD i.val 0 ∧ widL.getD i.val 0 ≤ 16 := by decide
  have hw := h5 ⟨b, hb⟩
  simp only at hw
  have E := Lib.hid (show slopeR t b = 64 / widL.getD b 0 + (8 - min (max t 0) 7) * b from rfl)
  generalize widL.getD b 0 = wd at *
  have hq := quo64 wd hw.1
  have hne : (wd == 0) = false := by rw [beq_eq_false_iff_ne]; omega
  have hne' : ¬wd = 0 := by omega
  obtain ⟨w0, w1⟩ := hw
  obtain ⟨q0, q1⟩ := hq
  by_cases h0 : t < 0
  · have e : min (max t 0) 7 = 0 := by omega
    rw [e] at E
    clear e
    go_enter Tryd.func34, Tryd.ntmps34
    go_wp2_with fail
    refine (hB.out _).mono ?_
    rintro e w' ⟨rfl, hb1⟩; obtain ⟨x1, rfl⟩ := below_as_grew hb1; clear hb1
    go_wp2_with fail
    go_ret
    exact ⟨ret_int (by rw [E.out]; omega), by (repeat' (first | (with_reducible exact Below.refl _ _) | (with_reducible assumption) | (with_reducible refine Below.alloc ?_ ?_ _) | (with_reducible refine below_grew ?_ ?_ _) | (with_reducible refine Below.setCell ?_ ?_ _) | (with_reducible refine Below.drew ?_) | (with_reducible refine below_drewN ?_ _) | omega | (simp; done) | (simp; omega)))⟩
  · by_cases h7 : 7 < t
    · have e : min (max t 0) 7 = 7 := by omega
      rw [e] at E
      clear e
      go_enter Tryd.func34, Tryd.ntmps34
      go_wp2_with fail
      refine (hB.out _).mono ?_
      rintro e w' ⟨rfl, hb1⟩; obtain ⟨x1, rfl⟩ := below_as_grew hb1; clear hb1
      go_wp2_with fail
      go_ret
      exact ⟨ret_int (by rw [E.out]; omega), by (repeat' (first | (with_reducible exact Below.refl _ _) | (with_reducible assumption) | (with_reducible refine Below.alloc ?_ ?_ _) | (with_reducible refine below_grew ?_ ?_ _) | (with_reducible refine Below.setCell ?_ ?_ _) | (with_reducible refine Below.drew ?_) | (with_reducible refine below_drewN ?_ _) | omega | (simp; done) | (simp; omega)))⟩
    · have e : min (max t 0) 7 = t := by omega
      rw [e] at E
      clear e
      have hm : 0 ≤ (8 - t) * (b : Int) ∧ (8 - t) * (b : Int) ≤ 32 := by
        have : b = 0 ∨ b = 1 ∨ b = 2 ∨ b = 3 ∨ b = 4 := by omega
        rcases this with rfl | rfl | rfl | rfl | rfl <;> simp <;> omega
      obtain ⟨m0, m1⟩ := hm
      have e8 : wrap64 (8 - t) = 8 - t := IntWalk.wrap64_in _ (by omega)
      have e9 : wrap64 ((8 - t) * (b : Int)) = (8 - t) * (b : Int) := IntWalk.wrap64_in _ (by omega)
      go_enter Tryd.func34, Tryd.ntmps34
      go_wp2_with fail
      refine (hB.out _).mono ?_
      rintro e w' ⟨rfl, hb1⟩; obtain ⟨x1, rfl⟩ := below_as_grew hb1; clear hb1
      go_wp2_with fail
      go_ret
      refine ⟨ret_int ?_, by (repeat' (first | (with_reducible exact Below.refl _ _) | (with_reducible assumption) | (with_reducible refine Below.alloc ?_ ?_ _) | (with_reducible refine below_grew ?_ ?_ _) | (with_reducible refine Below.setCell ?_ ?_ _) | (with_reducible refine Below.drew ?_) | (with_reducible refine below_drewN ?_ _) | omega | (simp; done) | (simp; omega)))⟩
      rw [E.out]

set_option maxHeartbeats 1000000 in
/-- What pulses cost, band by band, by the document. -/
theorem refTotal (s c : Int) (hR : RightP s c) (k0 k1 k2 k3 k4 : Int) (w : World) : Calls Tryd.prog 35 #[.int .i64 s, .int .i64 c, .agg #[.int .i64 k0, .int .i64 k1, .int .i64 k2, .int .i64 k3, .int .i64 k4]] w fun e w' => e = .returned (.int .i64 (totalF s c [k0, k1, k2, k3, k4])) ∧ Below w.heap.size w w' := by
  obtain ⟨l, hl⟩ : ∃ l, l = [k0, k1, k2, k3, k4] := ⟨_, rfl⟩
  have hx : ∀ n, n < 5 → (w.alloc (.cells #[.int .i64 k0, .int .i64 k1, .int .i64 k2, .int .i64 k3, .int .i64 k4] 22)).cell? ⟨w.heap.size, n, none⟩ = some (.int .i64 (l.getD n 0)) := fun n hn => by
    have : n = 0 ∨ n = 1 ∨ n = 2 ∨ n = 3 ∨ n = 4 := by omega
    subst hl
    rcases this with rfl | rfl | rfl | rfl | rfl <;> simp [go_sem]
  obtain ⟨A, hA⟩ : ∃ A, A = w.alloc (.cells #[.int .i64 k0, .int .i64 k1, .int .i64 k2, .int .i64 k3, .int .i64 k4] 22) := ⟨_, rfl⟩
  rw [← hA] at hx
  rw [← hl]
  have hAs : w.heap.size < A.heap.size := by subst hA; simp
  have HAb := Lib.hid (show Below w.heap.size w A by subst hA; (repeat' (first | (with_reducible exact Below.refl _ _) | (with_reducible assumption) | (with_reducible refine Below.alloc ?_ ?_ _) | (with_reducible refine below_grew ?_ ?_ _) | (with_reducible refine Below.setCell ?_ ?_ _) | (with_reducible refine Below.drew ?_) | (with_reducible refine below_drewN ?_ _) | omega | (simp; done) | (simp; omega))))
  have HX := Lib.hid hx
  have hbd := bandsF_bd s c
  have hbands := Lib.hid (fun w => refBands s c hR w)
  have hc12 : 1 ≤ c ∧ c ≤ 2 := by unfold RightP at hR; omega
  obtain ⟨hc1, hc2⟩ := hc12
  have Hw := Lib.hid (fun b : Nat => (show (b : Int) < bandsF s c → widthF s c b = widL.getD b 0 from fun h => by unfold widthF; rw [if_pos ⟨by omega, h⟩]; simp))
  have Hbits := Lib.hid bitsF_bd
  have HR := Lib.hid hR
  have Hl := Lib.hid hl
  have HA := Lib.hid hA
  have hT := Lib.hid (show totalF s c l = if RightP s c ∧ okTo s c l 5 = true then sumAt s c l 5 * c else -1 from rfl)
  clear hl hx hA hR
  go_enter Tryd.func35, Tryd.ntmps35
  go_wp2_with fail
  rw [← HA.out]
  go_loopw [7, 8] (fun sum cnt wr => ∃ n : Nat, n ≤ 5 ∧ cnt = .int .i64 n ∧ okTo s c l n = true ∧ sum = .int .i64 (sumAt s c l n * c) ∧ ∃ y, wr = A.grew y) (fun _ cnt _ => 5 - (intOf cnt).toNat)
  case atStart => exact ⟨0, by omega, rfl, rfl, by simp [sumAt], World.as_grew _⟩
  case round =>
    obtain ⟨n, hn, rfl, hok, rfl, y, rfl⟩ := hrel
    have Hok := Lib.hid hok
    clear hok
    by_cases hlt : n < 5
    · have hlt' : (n : Int) < 5 := by omega
      have hn0 : (0 : Int) ≤ n := by omega
      have hx := HX.out n hlt
      have hs := sumAt_bd s c l n
      have hsb : -1000 * c ≤ sumAt s c l n * c ∧ sumAt s c l n * c ≤ 1000 * c := ⟨Int.mul_le_mul_of_nonneg_right (by omega) (by omega), Int.mul_le_mul_of_nonneg_right (by omega) (by omega)⟩
      have Hnext := Lib.hid (show sumAt s c l (n + 1) = sumAt s c l n + costAt s c l n from rfl)
      have Hokn := Lib.hid (show okTo s c l (n + 1) = (okTo s c l n && okAt s c l n) from rfl)
      have Hcost := Lib.hid (show costAt s c l n = if (n : Int) < bandsF s c then bitsF (widthF s c n) (l.getD n 0) else 0 from rfl)
      have HokA := Lib.hid (show okAt s c l n = if (n : Int) < bandsF s c then decide (0 ≤ bitsF (widthF s c n) (l.getD n 0)) else decide (l.getD n 0 = 0) from rfl)
      have Hfalse := Lib.hid (fun h : okAt s c l n = false => okTo_false hlt h)
      by_cases hb : (n : Int) < bandsF s c
      · rw [if_pos hb] at Hcost HokA
        rw [Hw.out n hb] at Hcost HokA
        have hbit := bitsF_bd (widL.getD n 0) (l.getD n 0)
        have hbc : -1 * c ≤ bitsF (widL.getD n 0) (l.getD n 0) * c ∧ bitsF (widL.getD n 0) (l.getD n 0) * c ≤ 200 * c := ⟨Int.mul_le_mul_of_nonneg_right (by omega) (by omega), Int.mul_le_mul_of_nonneg_right (by omega) (by omega)⟩
        have hband := Lib.hid (fun w => refBand n hlt w)
        have hrb := Lib.hid (fun w => refBits (widL.getD n 0) (l.getD n 0) w)
        generalize hS : sumAt s c l n * c = S at *
        have HS := Lib.hid hS
        clear hS hs
        generalize hBt : bitsF (widL.getD n 0) (l.getD n 0) = bt at *
        clear hBt
        generalize l.getD n 0 = kn at *
        generalize hBC : bt * c = BC at *
        have HBC := Lib.hid hBC
        by_cases hneg : bt < 0
        · clear hBC
          have hz : okTo s c l 5 = false := Hfalse.out (by rw [HokA.out]; simpa using hneg)
          have Ht := Lib.hid (show totalF s c l = -1 by rw [hT.out, hz]; simp)
          clear hz
          go_wp2_with fail
          refine (hbands.out _).mono ?_
          rintro e w' ⟨rfl, hb1⟩; obtain ⟨x1, rfl⟩ := below_as_grew hb1; clear hb1
          go_wp2_with fail
          refine (hband.out _).mono ?_
          rintro e w' ⟨rfl, hb1⟩; obtain ⟨x1, rfl⟩ := below_as_grew hb1; clear hb1
          go_wp2_with fail
          refine (hrb.out _).mono ?_
          rintro e w' ⟨rfl, hb1⟩; obtain ⟨x1, rfl⟩ := below_as_grew hb1; clear hb1
          go_wp2_with fail
          go_ret
          refine ⟨ret_int Ht.out.symm, ?_⟩
          exact below_grew HAb.out (by omega) _
        · go_wp2_with fail
          refine (hbands.out _).mono ?_
          rintro e w' ⟨rfl, hb1⟩; obtain ⟨x1, rfl⟩ := below_as_grew hb1; clear hb1
          go_wp2_with fail
          refine (hband.out _).mono ?_
          rintro e w' ⟨rfl, hb1⟩; obtain ⟨x1, rfl⟩ := below_as_grew hb1; clear hb1
          go_wp2_with fail
          refine (hrb.out _).mono ?_
          rintro e w' ⟨rfl, hb1⟩; obtain ⟨x1, rfl⟩ := below_as_grew hb1; clear hb1
          go_wp2_with fail
          go_roundw
          case rel =>
            refine ⟨n + 1, by omega, by go_num, ?_, ?_, _, rfl⟩
            · rw [Hokn.out, Hok.out, HokA.out]; simpa using hneg
            · rw [Hnext.out, Hcost.out, Int.add_mul, HS.out, HBC.out]
          case measure => simp [intOf]; omega
      · rw [if_neg hb] at Hcost HokA
        generalize hS : sumAt s c l n * c = S at *
        have HS := Lib.hid hS
        clear hS hs
        generalize l.getD n 0 = kn at *
        by_cases hz : kn = 0
        · have hz1 : (kn != 0) = false := by simpa using hz
          have Hz := Lib.hid hz
          clear hz
          go_wp2_with fail
          refine (hbands.out _).mono ?_
          rintro e w' ⟨rfl, hb1⟩; obtain ⟨x1, rfl⟩ := below_as_grew hb1; clear hb1
          go_wp2_with fail
          go_roundw
          case rel =>
            refine ⟨n + 1, by omega, by go_num, ?_, ?_, _, rfl⟩
            · rw [Hokn.out, Hok.out, HokA.out]; simpa using Hz.out
            · rw [Hnext.out, Hcost.out, Int.add_zero, HS.out]
          case measure => simp [intOf]; omega
        · have hz1 : (kn != 0) = true := by simpa using hz
          have h5 : okTo s c l 5 = false := Hfalse.out (by rw [HokA.out]; simpa using hz)
          have Ht := Lib.hid (show totalF s c l = -1 by rw [hT.out, h5]; simp)
          clear hz h5
          go_wp2_with fail
          refine (hbands.out _).mono ?_
          rintro e w' ⟨rfl, hb1⟩; obtain ⟨x1, rfl⟩ := below_as_grew hb1; clear hb1
          go_wp2_with fail
          go_ret
          refine ⟨ret_int Ht.out.symm, ?_⟩
          exact below_grew HAb.out (by omega) _
    · obtain rfl : n = 5 := by omega
      have Ht := Lib.hid (show totalF s c l = sumAt s c l 5 * c by rw [hT.out, Hok.out, if_pos ⟨HR.out, rfl⟩])
      go_wp2
      go_ret
      exact ⟨ret_int Ht.out.symm, below_grew HAb.out (by omega) _⟩
end Go.Proofs.YtmcjbejccelagaaDoor
