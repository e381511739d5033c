/-
  What the document's answer for turns comes to (package spinetref20), and the law's small functions.
-/
import Derived.Test.YtmcjbejccelagaaDoorCisD
import Derived.Great.BuildSlice
namespace Go.Proofs.YtmcjbejccelagaaDoor
open Go.RowKit Go.BigFrame
set_option linter.unusedSimpArgs false

theorem refTimes_any (p q : Int × Int) (w : World) :
    Calls Tryd.prog 56 #[pairAgg p, pairAgg q] w fun e w' => e = .returned (pairAgg (timesRe p.1 p.2 q.1 q.2, timesIm p.1 p.2 q.1 q.2)) ∧ Below w.heap.size w w' := by
  obtain ⟨a, b⟩ := p
  obtain ⟨c, d⟩ := q
  unfold pairAgg
  go_enter Tryd.func56, Tryd.ntmps56
  go_wp2
  refine bodyPost_ret (v := _) (by simp [results, Tryd.results56, go_sem]; rfl) rfl ⟨?_, ?_⟩
  · rfl
  · (repeat' (first | (with_reducible exact Below.refl _ _) | (with_reducible assumption) | (with_reducible refine Below.alloc ?_ ?_ _) | (with_reducible refine below_grew ?_ ?_ _) | (with_reducible refine Below.setCell ?_ ?_ _) | (with_reducible refine Below.drew ?_) | (with_reducible refine below_drewN ?_ _) | omega | (simp; done) | (simp; omega)))

theorem lawPlain_any (p : Int × Int) (w : World) :
    Calls Tryd.prog 19 #[pairAgg p] w fun e w' => e = .returned (pairAgg p) ∧ Below w.heap.size w w' := by
  obtain ⟨a, b⟩ := p
  unfold pairAgg
  go_enter Tryd.func19, Tryd.ntmps19
  go_wp2
  refine bodyPost_ret (v := _) (by simp [results, Tryd.results19, go_sem]; rfl) rfl ⟨?_, ?_⟩
  · rfl
  · (repeat' (first | (with_reducible exact Below.refl _ _) | (with_reducible assumption) | (with_reducible refine Below.alloc ?_ ?_ _) | (with_reducible refine below_grew ?_ ?_ _) | (with_reducible refine Below.setCell ?_ ?_ _) | (with_reducible refine Below.drew ?_) | (with_reducible refine below_drewN ?_ _) | omega | (simp; done) | (simp; omega)))

/-- The table, as a row of values. -/
def cosArr : Array Value := (cosL.map (Value.int .i64)).toArray
theorem cosArr_at (j : Int) (h0 : 0 ≤ j) (h1 : j ≤ 64) : cosArr[j.toNat]? = some (.int .i64 (cosAt j)) := by
  have h : ∀ n : Nat, n < 65 → cosArr[n]? = some (.int .i64 (cosL.getD n 0)) := by
    intro n hn
    unfold cosArr
    rw [List.getElem?_toArray, List.getElem?_map, List.getD_eq_getElem?_getD]
    rw [List.getElem?_eq_getElem (show n < cosL.length from hn)]
    rfl
  exact h j.toNat (by omega)

theorem refCos_low (m : Int) (h0 : 0 ≤ m) (h1 : m ≤ 128) (w : World) :
    Calls Tryd.prog 77 #[.int .i64 m] w fun e w' => e = .returned (.int .i64 (cosM m)) ∧ Below w.heap.size w w' := by
  have hca : (cosL.map (Value.int .i64)).toArray = cosArr := rfl
  have hb : ∀ i, wrap64 (-cosAt i) = -cosAt i := fun i => IntWalk.wrap64_in _ (by have := cosAt_bd i; omega)
  have ht : m.tmod 256 = m := by rw [Int.tmod_eq_emod_of_nonneg h0]; omega
  by_cases t1 : m ≤ 64
  · have E := Lib.hid (show cosM m = cosAt m from by unfold cosM; rw [if_pos t1])
    have hc := cosArr_at m h0 t1
    go_enter Tryd.func77, Tryd.ntmps77
    go_wp2_with (refine wpList_buildFlat rfl 43 2 65 _ rfl .i64 cosL (by kernel_rfl) (by kernel_rfl) (by kernel_rfl) (by kernel_rfl) (by decide) (by decide) (by kernel_rfl) ?_; rw [hca])
    go_ret
    exact ⟨ret_int (by rw [E.out]), by (repeat' (first | (with_reducible exact Below.refl _ _) | (with_reducible assumption) | (with_reducible refine Below.alloc ?_ ?_ _) | (with_reducible refine below_grew ?_ ?_ _) | (with_reducible refine Below.setCell ?_ ?_ _) | (with_reducible refine Below.drew ?_) | (with_reducible refine below_drewN ?_ _) | omega | (simp; done) | (simp; omega)))⟩
  · have E := Lib.hid (show cosM m = -cosAt (128 - m) from by unfold cosM; rw [if_neg t1, if_pos h1])
    have hc := cosArr_at (128 - m) (by omega) (by omega)
    go_enter Tryd.func77, Tryd.ntmps77
    go_wp2_with (refine wpList_buildFlat rfl 43 2 65 _ rfl .i64 cosL (by kernel_rfl) (by kernel_rfl) (by kernel_rfl) (by kernel_rfl) (by decide) (by decide) (by kernel_rfl) ?_; rw [hca])
    go_ret
    exact ⟨ret_int (by rw [E.out]), by (repeat' (first | (with_reducible exact Below.refl _ _) | (with_reducible assumption) | (with_reducible refine Below.alloc ?_ ?_ _) | (with_reducible refine below_grew ?_ ?_ _) | (with_reducible refine Below.setCell ?_ ?_ _) | (with_reducible refine Below.drew ?_) | (with_reducible refine below_drewN ?_ _) | omega | (simp; done) | (simp; omega)))⟩

theorem cosM_mirror (m : Int) (h0 : 128 < m) (h1 : m ≤ 255) : cosM (256 - m) = cosM m := by
  unfold cosM
  by_cases h : m < 192
  · rw [if_neg (by omega), if_pos (by omega), if_neg (by omega), if_neg (by omega), if_pos h, show 128 - (256 - m) = m - 128 by omega]
  · rw [if_pos (by omega), if_neg (by omega), if_neg (by omega), if_neg h]
theorem refCos_pos (j t m : Int) (ht : j.tmod 256 = t) (hm : 0 ≤ t ∧ t = m) (h0 : 0 ≤ m) (h1 : m ≤ 255) (hj : j % 256 = m) (w : World) :
    Calls Tryd.prog 77 #[.int .i64 j] w fun e w' => e = .returned (.int .i64 (cosF j)) ∧ Below w.heap.size w w' := by
  have F := Lib.hid (show cosF j = cosM m from by unfold cosF; rw [hj])
  clear hj
  have hca : (cosL.map (Value.int .i64)).toArray = cosArr := rfl
  have hb : ∀ i, wrap64 (-cosAt i) = -cosAt i := fun i => IntWalk.wrap64_in _ (by have := cosAt_bd i; omega)
  obtain ⟨hs, rfl⟩ := hm
  by_cases t1 : t ≤ 64
  · have E := Lib.hid (show cosM t = cosAt t from by unfold cosM; rw [if_pos t1])
    have hc := cosArr_at t h0 t1
    go_enter Tryd.func77, Tryd.ntmps77
    go_wp2_with (refine wpList_buildFlat rfl 43 2 65 _ rfl .i64 cosL (by kernel_rfl) (by kernel_rfl) (by kernel_rfl) (by kernel_rfl) (by decide) (by decide) (by kernel_rfl) ?_; rw [hca])
    go_ret
    exact ⟨ret_int (by rw [F.out, E.out]), by (repeat' (first | (with_reducible exact Below.refl _ _) | (with_reducible assumption) | (with_reducible refine Below.alloc ?_ ?_ _) | (with_reducible refine below_grew ?_ ?_ _) | (with_reducible refine Below.setCell ?_ ?_ _) | (with_reducible refine Below.drew ?_) | (with_reducible refine below_drewN ?_ _) | omega | (simp; done) | (simp; omega)))⟩
  · by_cases t2 : t ≤ 128
    · have E := Lib.hid (show cosM t = -cosAt (128 - t) from by unfold cosM; rw [if_neg t1, if_pos t2])
      have hc := cosArr_at (128 - t) (by omega) (by omega)
      go_enter Tryd.func77, Tryd.ntmps77
      go_wp2_with (refine wpList_buildFlat rfl 43 2 65 _ rfl .i64 cosL (by kernel_rfl) (by kernel_rfl) (by kernel_rfl) (by kernel_rfl) (by decide) (by decide) (by kernel_rfl) ?_; rw [hca])
      go_ret
      exact ⟨ret_int (by rw [F.out, E.out]), by (repeat' (first | (with_reducible exact Below.refl _ _) | (with_reducible assumption) | (with_reducible refine Below.alloc ?_ ?_ _) | (with_reducible refine below_grew ?_ ?_ _) | (with_reducible refine Below.setCell ?_ ?_ _) | (with_reducible refine Below.drew ?_) | (with_reducible refine below_drewN ?_ _) | omega | (simp; done) | (simp; omega)))⟩
    · have E := Lib.hid (cosM_mirror t (by omega) h1)
      have HL := Lib.hid refCos_low
      go_enter Tryd.func77, Tryd.ntmps77
      go_wp2_with (first | (refine wpList_buildFlat rfl 43 2 65 _ rfl .i64 cosL (by kernel_rfl) (by kernel_rfl) (by kernel_rfl) (by kernel_rfl) (by decide) (by decide) (by kernel_rfl) ?_; rw [hca]) | (go_at_call 77; refine (HL.out _ ?_ ?_ _).mono ?_; omega; omega; rintro e w' ⟨rfl, hb1⟩; obtain ⟨x1, rfl⟩ := below_as_grew hb1; clear hb1))
      go_ret
      exact ⟨ret_int (by rw [F.out, E.out]), by (repeat' (first | (with_reducible exact Below.refl _ _) | (with_reducible assumption) | (with_reducible refine Below.alloc ?_ ?_ _) | (with_reducible refine below_grew ?_ ?_ _) | (with_reducible refine Below.setCell ?_ ?_ _) | (with_reducible refine Below.drew ?_) | (with_reducible refine below_drewN ?_ _) | omega | (simp; done) | (simp; omega)))⟩

theorem refCos_neg (j t m : Int) (ht : j.tmod 256 = t) (hm : t < 0 ∧ t + 256 = m) (h0 : 0 ≤ m) (h1 : m ≤ 255) (hj : j % 256 = m) (w : World) :
    Calls Tryd.prog 77 #[.int .i64 j] w fun e w' => e = .returned (.int .i64 (cosF j)) ∧ Below w.heap.size w w' := by
  have F := Lib.hid (show cosF j = cosM m from by unfold cosF; rw [hj])
  clear hj
  have hca : (cosL.map (Value.int .i64)).toArray = cosArr := rfl
  have hb : ∀ i, wrap64 (-cosAt i) = -cosAt i := fun i => IntWalk.wrap64_in _ (by have := cosAt_bd i; omega)
  obtain ⟨hs, rfl⟩ := hm
  by_cases t1 : t + 256 ≤ 64
  · have E := Lib.hid (show cosM (t + 256) = cosAt (t + 256) from by unfold cosM; rw [if_pos t1])
    have hc := cosArr_at (t + 256) h0 t1
    go_enter Tryd.func77, Tryd.ntmps77
    go_wp2_with (refine wpList_buildFlat rfl 43 2 65 _ rfl .i64 cosL (by kernel_rfl) (by kernel_rfl) (by kernel_rfl) (by kernel_rfl) (by decide) (by decide) (by kernel_rfl) ?_; rw [hca])
    go_ret
    exact ⟨ret_int (by rw [F.out, E.out]), by (repeat' (first | (with_reducible exact Below.refl _ _) | (with_reducible assumption) | (with_reducible refine Below.alloc ?_ ?_ _) | (with_reducible refine below_grew ?_ ?_ _) | (with_reducible refine Below.setCell ?_ ?_ _) | (with_reducible refine Below.drew ?_) | (with_reducible refine below_drewN ?_ _) | omega | (simp; done) | (simp; omega)))⟩
  · by_cases t2 : t + 256 ≤ 128
    · have E := Lib.hid (show cosM (t + 256) = -cosAt (128 - (t + 256)) from by unfold cosM; rw [if_neg t1, if_pos t2])
      have hc := cosArr_at (128 - (t + 256)) (by omega) (by omega)
      go_enter Tryd.func77, Tryd.ntmps77
      go_wp2_with (refine wpList_buildFlat rfl 43 2 65 _ rfl .i64 cosL (by kernel_rfl) (by kernel_rfl) (by kernel_rfl) (by kernel_rfl) (by decide) (by decide) (by kernel_rfl) ?_; rw [hca])
      go_ret
      exact ⟨ret_int (by rw [F.out, E.out]), by (repeat' (first | (with_reducible exact Below.refl _ _) | (with_reducible assumption) | (with_reducible refine Below.alloc ?_ ?_ _) | (with_reducible refine below_grew ?_ ?_ _) | (with_reducible refine Below.setCell ?_ ?_ _) | (with_reducible refine Below.drew ?_) | (with_reducible refine below_drewN ?_ _) | omega | (simp; done) | (simp; omega)))⟩
    · have E := Lib.hid (cosM_mirror (t + 256) (by omega) h1)
      have HL := Lib.hid refCos_low
      go_enter Tryd.func77, Tryd.ntmps77
      go_wp2_with (first | (refine wpList_buildFlat rfl 43 2 65 _ rfl .i64 cosL (by kernel_rfl) (by kernel_rfl) (by kernel_rfl) (by kernel_rfl) (by decide) (by decide) (by kernel_rfl) ?_; rw [hca]) | (go_at_call 77; refine (HL.out _ ?_ ?_ _).mono ?_; omega; omega; rintro e w' ⟨rfl, hb1⟩; obtain ⟨x1, rfl⟩ := below_as_grew hb1; clear hb1))
      go_ret
      exact ⟨ret_int (by rw [F.out, E.out]), by (repeat' (first | (with_reducible exact Below.refl _ _) | (with_reducible assumption) | (with_reducible refine Below.alloc ?_ ?_ _) | (with_reducible refine below_grew ?_ ?_ _) | (with_reducible refine Below.setCell ?_ ?_ _) | (with_reducible refine Below.drew ?_) | (with_reducible refine below_drewN ?_ _) | omega | (simp; done) | (simp; omega)))⟩

theorem refCos_any (j : Int) (w : World) :
    Calls Tryd.prog 77 #[.int .i64 j] w fun e w' => e = .returned (.int .i64 (cosF j)) ∧ Below w.heap.size w w' := by
  have h := Int.tmod_def j 256
  have h2 := Int.tdiv_eq_ediv (a := j) (b := 256)
  by_cases hj : 0 ≤ j.tmod 256
  · exact refCos_pos j _ (j % 256) rfl ⟨hj, by have := Int.emod_nonneg j (show (256 : Int) ≠ 0 by decide); have h3 := Int.tmod_lt_of_pos j (show (0 : Int) < 256 by decide); omega⟩ (by omega) (by omega) rfl w
  · exact refCos_neg j _ (j % 256) rfl ⟨by omega, by have h3 := Int.lt_tmod_of_pos j (show (0 : Int) < 256 by decide); omega⟩ (by omega) (by omega) rfl w

theorem refTurn_any (j : Int) (w : World) :
    Calls Tryd.prog 57 #[.int .i64 j] w fun e w' => e = .returned (pairAgg (turnF j)) ∧ Below w.heap.size w w' := by
  have hH := Lib.hid refCos_any
  have e1 : cosF (j.tmod 256) = cosF j := by
    unfold cosF; congr 1
    have h := Int.tmod_def j 256
    omega
  have e2 : cosF (j.tmod 256 - 64) = cosF (j - 64) := by
    unfold cosF; congr 1
    have h := Int.tmod_def j 256
    omega
  have bt : -256 < j.tmod 256 ∧ j.tmod 256 < 256 := ⟨Int.lt_tmod_of_pos j (by decide), Int.tmod_lt_of_pos j (by decide)⟩
  generalize ht : j.tmod 256 = t at *
  obtain ⟨b1, b2⟩ := bt
  have hn : wrap64 (-cosF (t - 64)) = -cosF (t - 64) := IntWalk.wrap64_in _ (by have := cosF_bd (t - 64); omega)
  have E1 := Lib.hid e1
  have E2 := Lib.hid e2
  have En := Lib.hid hn
  clear e1 e2 hn
  go_enter Tryd.func57, Tryd.ntmps57
  go_wp2_with (go_at_call 77; refine (hH.out _ _).mono ?_; rintro e w' ⟨rfl, hb1⟩; obtain ⟨x1, rfl⟩ := below_as_grew hb1; clear hb1)
  refine bodyPost_ret (v := _) (by simp [results, Tryd.results57, go_sem]; rfl) rfl ⟨?_, ?_⟩
  · rw [E1.out, En.out, E2.out]; rfl
  · (repeat' (first | (with_reducible exact Below.refl _ _) | (with_reducible assumption) | (with_reducible refine Below.alloc ?_ ?_ _) | (with_reducible refine below_grew ?_ ?_ _) | (with_reducible refine Below.setCell ?_ ?_ _) | (with_reducible refine Below.drew ?_) | (with_reducible refine below_drewN ?_ _) | omega | (simp; done) | (simp; omega)))

/-- The answer's weight: the same product, of numbers that are halved step by step. -/
theorem refWeight_any (s : Nat) (hs : s ≤ 4) (n k : Int) (hn : 0 ≤ n ∧ n < 16) (hk : 0 ≤ k ∧ k < 16) (w : World) :
    Calls Tryd.prog 21 #[.int .i64 s, .int .i64 n, .int .i64 k] w fun e w' => e = .returned (pairAgg (weightF s n k)) ∧ Below w.heap.size w w' := by
  have ht := refTimes_any
  have hu := refTurn_any
  unfold pairAgg at ht hu
  have HT := Lib.hid ht
  have Hu := Lib.hid hu
  clear ht hu
  obtain ⟨n0, n1⟩ := hn
  obtain ⟨k0, k1⟩ := hk
  unfold pairAgg
  have hS0 : (0 : Int) ≤ s := by omega
  have hS4 : (s : Int) ≤ 4 := by omega
  go_enter Tryd.func21, Tryd.ntmps21
  go_wp2
  go_loop [8, 9] (fun z c => ∃ i : Nat, i ≤ s ∧ c = .int .i64 i ∧ z = .int .i64 (2 ^ i)) (fun _ c => s - (intOf c).toNat)
  case atStart => exact ⟨0, by omega, rfl, rfl⟩
  case round =>
    obtain ⟨i, hi, rfl, rfl⟩ := hrel
    by_cases hlt : i < s
    · have hlt' : (i : Int) < s := by omega
      have hp : wrap64 (2 ^ i * 2) = 2 ^ (i + 1) := by
        have : i = 0 ∨ i = 1 ∨ i = 2 ∨ i = 3 := by omega
        rcases this with rfl | rfl | rfl | rfl <;> (unfold wrap64; decide)
      go_wp2
      go_round
      case rel => exact ⟨i + 1, by omega, by go_num, by rw [hp]⟩
      case measure => simp [intOf]; omega
    · obtain rfl : i = s := by omega
      go_wp2
      go_loopw [1, 8, 10] (fun nn z c wr => ∃ j : Nat, j ≤ i ∧ c = .int .i64 j ∧ nn = .int .i64 (n / 2 ^ j) ∧ z = .int .i64 (2 ^ (i - j)) ∧ ∃ x, wr = ((w.alloc (.cells #[.int .i64 0, .int .i64 0] 40)).alloc (.cells #[.int .i64 (weightTo i n k j).1, .int .i64 (weightTo i n k j).2] 40)).grew x) (fun _ _ c _ => i - (intOf c).toNat)
      case atStart => exact ⟨0, by omega, rfl, by simp, rfl, World.as_grew _⟩
      case round =>
        obtain ⟨j, hj, rfl, rfl, rfl, x, rfl⟩ := hrel
        by_cases hji : j < i
        · have hji' : (j : Int) < i := by omega
          have hq0 : 0 ≤ n / 2 ^ j := Int.ediv_nonneg n0 (Int.pow_nonneg (by decide))
          have hq1 : n / 2 ^ j ≤ 16 := by have := Int.ediv_le_self (2 ^ j) n0; omega
          have hq2 : n / 2 ^ j / 2 = n / 2 ^ (j + 1) := by rw [Int.ediv_ediv_of_nonneg (Int.pow_nonneg (by decide)), Int.pow_succ]
          have hd : ∃ d : Nat, i - j = d ∧ 1 ≤ d ∧ d ≤ 4 := ⟨i - j, rfl, by omega, by omega⟩
          obtain ⟨d, hd, hd1, hd4⟩ := hd
          have hhalf : (2 : Int) ^ d / 2 = 2 ^ (i - (j + 1)) := by
            have : d = 1 ∨ d = 2 ∨ d = 3 ∨ d = 4 := by omega
            rcases this with rfl | rfl | rfl | rfl
            · rw [show i - (j + 1) = 0 by omega]; decide
            · rw [show i - (j + 1) = 1 by omega]; decide
            · rw [show i - (j + 1) = 2 by omega]; decide
            · rw [show i - (j + 1) = 3 by omega]; decide
          obtain ⟨s1, s2, s3, s4, s5, s6⟩ := sizes d hd1 hd4
          have z5 : 0 ≤ k % 2 ^ d := Int.emod_nonneg _ (by omega)
          have z6 : k % 2 ^ d < 2 ^ d := Int.emod_lt_of_pos _ (by omega)
          have z7 : k % 2 ^ d * 2 ^ (8 - d) ≤ 2 ^ d * 2 ^ (8 - d) := Int.mul_le_mul_of_nonneg_right (by omega) (by omega)
          have z8 : 0 ≤ k % 2 ^ d * 2 ^ (8 - d) := Int.mul_nonneg z5 (by omega)
          have E0 := Lib.hid (fun hb : n / 2 ^ j % 2 = 0 => (show weightTo i n k (j + 1) = wmul (weightTo i n k j) (4096, 0) from by show wstep i n k j _ = _; unfold wstep; rw [if_pos hb]))
          have E1 := Lib.hid (fun hb : ¬ n / 2 ^ j % 2 = 0 => (show weightTo i n k (j + 1) = wmul (weightTo i n k j) (turnF (k % 2 ^ d * 2 ^ (8 - d))) from by show wstep i n k j _ = _; unfold wstep wturn; rw [if_neg hb, hd]))
          have X0 := Lib.hid (times_exact (weightTo i n k j) (4096, 0) (weight_held i n k j (by omega)) (by unfold small; decide))
          have X1 := Lib.hid (times_exact (weightTo i n k j) (turnF (k % 2 ^ d * 2 ^ (8 - d))) (weight_held i n k j (by omega)) (turnF_small _))
          rw [hd]
          generalize hQ : n / 2 ^ j = q at *
          generalize hD : (2 : Int) ^ d = D at *
          generalize (2 : Int) ^ (8 - d) = F at *
          have z9 : wrap64 (k % D * F) = k % D * F := IntWalk.wrap64_in _ (by omega)
          have HQ2 := Lib.hid hq2
          have Hh := Lib.hid hhalf
          clear hQ hD hd hd1 hd4 s4 s5 s6 z5 z6 z7 z8 hq2 hhalf
          by_cases hb : q % 2 = 0
          · have E := E0.out hb
            have HE := Lib.hid E
            clear E E0 E1 X1
            go_wp2_with (go_at_call 56; refine (HT.out (weightTo i n k j) (4096, 0) _).mono ?_; rintro e w' ⟨rfl, hb1⟩; obtain ⟨x1, rfl⟩ := below_as_grew hb1; clear hb1)
            go_roundw
            case rel => exact ⟨j + 1, by omega, by go_num, by rw [HQ2.out], by rw [Hh.out], by rw [HE.out, ← X0.out]; simp only [World.grew_grew]; exact ⟨_, rfl⟩⟩
            case measure => simp [intOf]; omega
          · have E := E1.out hb
            have HE := Lib.hid E
            clear E E0 E1 X0
            go_wp2_with fail
            first | refine wp_region_grew2 9 (by kernel_rfl) (by kernel_rfl) ?_ | refine wp_region_grew 9 (by kernel_rfl) (by kernel_rfl) ?_
            simp only [List.take_succ_cons, List.take_zero, List.drop_succ_cons, List.drop_zero]
            repeat (go_big_quiet_step (first | (go_at_call 56; exact Calls.grew_of (HT.out (weightTo i n k j) (turnF (k % D * F)) _)) | (go_at_call 57; exact Calls.grew_of (Hu.out _ _))))
            refine wpQuiet_nil ?_
            rintro _ ⟨x, rfl⟩
            go_wp2
            go_roundw
            case rel => exact ⟨j + 1, by omega, by go_num, by rw [HQ2.out], by rw [Hh.out], by rw [HE.out, ← X1.out]; simp only [World.grew_grew]; exact ⟨_, rfl⟩⟩
            case measure => simp [intOf]; omega
        · obtain rfl : j = i := by omega
          go_wp2
          refine bodyPost_ret (v := _) (by simp [results, Tryd.results21, go_sem]; rfl) rfl ⟨?_, ?_⟩
          · rfl
          · (repeat' (first | (with_reducible exact Below.refl _ _) | (with_reducible assumption) | (with_reducible refine Below.alloc ?_ ?_ _) | (with_reducible refine below_grew ?_ ?_ _) | (with_reducible refine Below.setCell ?_ ?_ _) | (with_reducible refine Below.drew ?_) | (with_reducible refine below_drewN ?_ _) | omega | (simp; done) | (simp; omega)))
end Go.Proofs.YtmcjbejccelagaaDoor
