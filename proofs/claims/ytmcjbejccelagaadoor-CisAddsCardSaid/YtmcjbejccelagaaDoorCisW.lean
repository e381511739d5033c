/-
  The weight of a pair in a sum (package cis).
-/
import Derived.Test.YtmcjbejccelagaaDoorWide2
import Derived.LoopTactic
namespace Go.Proofs.YtmcjbejccelagaaDoor
open Go.RowKit Go.BigFrame
set_option linter.unusedSimpArgs false

def wmul (p q : Int × Int) : Int × Int := (p.1 * q.1 - p.2 * q.2, p.1 * q.2 + p.2 * q.1)
def wturn (s : Nat) (k : Int) (i : Nat) : Int × Int := turnF (k % 2 ^ (s - i) * 2 ^ (8 - (s - i)))
def wstep (s : Nat) (n k : Int) (i : Nat) (p : Int × Int) : Int × Int := if n / 2 ^ i % 2 = 0 then wmul p (4096, 0) else wmul p (wturn s k i)
def weightTo (s : Nat) (n k : Int) : Nat → Int × Int
  | 0 => (1, 0)
  | i + 1 => wstep s n k i (weightTo s n k i)
def weightF (s : Nat) (n k : Int) : Int × Int := weightTo s n k s
/-- Half the numbers are held: at most so large. -/
def small (b : Int) (p : Int × Int) : Prop := -b ≤ p.1 ∧ p.1 ≤ b ∧ -b ≤ p.2 ∧ p.2 ≤ b

theorem prod_le {a b x y : Int} (ha : -a ≤ x ∧ x ≤ a) (hb : -b ≤ y ∧ y ≤ b) : -(a * b) ≤ x * y ∧ x * y ≤ a * b := by
  have h1 : x * y ≤ a * b := by
    by_cases hy : 0 ≤ y
    · calc x * y ≤ a * y := Int.mul_le_mul_of_nonneg_right ha.2 hy
        _ ≤ a * b := Int.mul_le_mul_of_nonneg_left hb.2 (by omega)
    · calc x * y = (-x) * (-y) := by grind
        _ ≤ a * (-y) := Int.mul_le_mul_of_nonneg_right (by omega) (by omega)
        _ ≤ a * b := Int.mul_le_mul_of_nonneg_left (by omega) (by omega)
  have h2 : (-x) * y ≤ a * b := by
    by_cases hy : 0 ≤ y
    · calc (-x) * y ≤ a * y := Int.mul_le_mul_of_nonneg_right (by omega) hy
        _ ≤ a * b := Int.mul_le_mul_of_nonneg_left hb.2 (by omega)
    · calc (-x) * y = x * (-y) := by grind
        _ ≤ a * (-y) := Int.mul_le_mul_of_nonneg_right (by omega) (by omega)
        _ ≤ a * b := Int.mul_le_mul_of_nonneg_left (by omega) (by omega)
  have e : (-x) * y = -(x * y) := by grind
  omega

theorem wmul_small {b c : Int} {p q : Int × Int} (hp : small b p) (hq : small c q) : small (2 * (b * c)) (wmul p q) := by
  obtain ⟨p1, p2, p3, p4⟩ := hp
  obtain ⟨q1, q2, q3, q4⟩ := hq
  have h1 := prod_le (a := b) (b := c) ⟨p1, p2⟩ ⟨q1, q2⟩
  have h2 := prod_le (a := b) (b := c) ⟨p3, p4⟩ ⟨q3, q4⟩
  have h3 := prod_le (a := b) (b := c) ⟨p1, p2⟩ ⟨q3, q4⟩
  have h4 := prod_le (a := b) (b := c) ⟨p3, p4⟩ ⟨q1, q2⟩
  unfold small wmul
  refine ⟨?_, ?_, ?_, ?_⟩ <;> simp only <;> omega
theorem turnF_small (j : Int) : small 4096 (turnF j) := by
  have h1 := cosF_bd j
  have h2 := cosF_bd (j - 64)
  unfold small turnF
  refine ⟨?_, ?_, ?_, ?_⟩ <;> simp only <;> omega
theorem wstep_small {b : Int} {p : Int × Int} (s : Nat) (n k : Int) (i : Nat) (hp : small b p) : small (8192 * b) (wstep s n k i p) := by
  have e : (8192 : Int) * b = 2 * (b * 4096) := by omega
  rw [e]
  unfold wstep
  split
  · exact wmul_small hp (by unfold small; decide)
  · exact wmul_small hp (turnF_small _)
theorem weightTo_small (s : Nat) (n k : Int) (i : Nat) : small (8192 ^ i) (weightTo s n k i) := by
  induction i with
  | zero => unfold small weightTo; decide
  | succ i ih =>
    have := wstep_small s n k i ih
    rw [Int.pow_succ, Int.mul_comm]
    exact this

/-- A product that doesn't wrap. -/
theorem times_exact (p q : Int × Int) (hp : small 549755813888 p) (hq : small 4096 q) : (timesRe p.1 p.2 q.1 q.2, timesIm p.1 p.2 q.1 q.2) = wmul p q := by
  obtain ⟨p1, p2, p3, p4⟩ := hp
  obtain ⟨q1, q2, q3, q4⟩ := hq
  have h1 := prod_le (a := 549755813888) (b := 4096) ⟨p1, p2⟩ ⟨q1, q2⟩
  have h2 := prod_le (a := 549755813888) (b := 4096) ⟨p3, p4⟩ ⟨q3, q4⟩
  have h3 := prod_le (a := 549755813888) (b := 4096) ⟨p1, p2⟩ ⟨q3, q4⟩
  have h4 := prod_le (a := 549755813888) (b := 4096) ⟨p3, p4⟩ ⟨q1, q2⟩
  unfold timesRe timesIm wmul
  rw [IntWalk.wrap64_in (p.1 * q.1) (by omega), IntWalk.wrap64_in (p.2 * q.2) (by omega), IntWalk.wrap64_in (p.1 * q.2) (by omega), IntWalk.wrap64_in (p.2 * q.1) (by omega), IntWalk.wrap64_in _ (by omega), IntWalk.wrap64_in _ (by omega)]

theorem weight_held (s : Nat) (n k : Int) (i : Nat) (h : i ≤ 3) : small 549755813888 (weightTo s n k i) := by
  have h1 := weightTo_small s n k i
  have h2 : (8192 : Int) ^ i ≤ 549755813888 := by
    have : i = 0 ∨ i = 1 ∨ i = 2 ∨ i = 3 := by omega
    rcases this with rfl | rfl | rfl | rfl <;> decide
  unfold small at *
  omega
theorem sizes (d : Nat) (h1 : 1 ≤ d) (h4 : d ≤ 4) : (2 : Int) ≤ 2 ^ d ∧ (2 : Int) ^ d ≤ 16 ∧ (256 : Int) / 2 ^ d = 2 ^ (8 - d) ∧ (1 : Int) ≤ 2 ^ (8 - d) ∧ (2 : Int) ^ (8 - d) ≤ 128 ∧ (2 : Int) ^ d * 2 ^ (8 - d) = 256 := by
  have : d = 1 ∨ d = 2 ∨ d = 3 ∨ d = 4 := by omega
  rcases this with rfl | rfl | rfl | rfl <;> decide

theorem weight_walk (S : Nat) (hS : S ≤ 4) (s M n k : Int) (h1 : max s 0 = M) (h2 : min M 4 = S) (w : World) (hT : CosW w) :
    Calls Tryd.prog 20 #[.int .i64 s, .int .i64 n, .int .i64 k] w fun e w' => e = .returned (pairAgg (weightF S n k)) ∧ Below w.heap.size w w' := by
  have ht := times_any
  have hu := turn_any
  unfold pairAgg at ht hu
  have HT := Lib.hid ht
  have Hu := Lib.hid hu
  clear ht hu
  have ha := fun x => i64_and1 x
  unfold pairAgg
  have hS0 : (0 : Int) ≤ S := by omega
  have hS4 : (S : Int) ≤ 4 := by omega
  go_enter Tryd.func20, Tryd.ntmps20
  go_wp2
  clear h1 h2
  go_loopw [15] (fun c wr => ∃ i : Nat, i ≤ S ∧ c = .int .i64 i ∧ ∃ x, wr = ((w.alloc (.cells #[.int .i64 0, .int .i64 0] 51)).alloc (.cells #[.int .i64 (weightTo S n k i).1, .int .i64 (weightTo S n k i).2] 51)).grew x) (fun c _ => S - (intOf c).toNat)
  case atStart => exact ⟨0, by omega, rfl, World.as_grew _⟩
  case round =>
    obtain ⟨i, hi, rfl, x, rfl⟩ := hrel
    by_cases hlt : i < S
    · have hlt' : (i : Int) < S := by omega
      have hi0 : (0 : Int) ≤ i := by omega
      by_cases hb : n / 2 ^ i % 2 = 0
      · have E := Lib.hid (show weightTo S n k (i + 1) = wmul (weightTo S n k i) (4096, 0) from by show wstep S n k i _ = _; unfold wstep; rw [if_pos hb])
        have Ex := Lib.hid (times_exact (weightTo S n k i) (4096, 0) (weight_held S n k i (by omega)) (by unfold small; decide))
        go_wp2_with (go_at_call 55; refine (HT.out (weightTo S n k i) (4096, 0) _).mono ?_; rintro e w' ⟨rfl, hb1⟩; obtain ⟨x1, rfl⟩ := below_as_grew hb1; clear hb1)
        go_roundw
        case rel => exact ⟨i + 1, by omega, by go_num, by rw [E.out, ← Ex.out]; simp only [World.grew_grew]; exact ⟨_, rfl⟩⟩
        case measure => simp [intOf]; omega
      · have hd : ∃ d : Nat, S - i = d ∧ 1 ≤ d ∧ d ≤ 4 := ⟨S - i, rfl, by omega, by omega⟩
        obtain ⟨d, hd, hd1, hd4⟩ := hd
        have E := Lib.hid (show weightTo S n k (i + 1) = wmul (weightTo S n k i) (turnF (k % 2 ^ d * 2 ^ (8 - d))) from by show wstep S n k i _ = _; unfold wstep wturn; rw [if_neg hb, hd])
        have Ex := Lib.hid (times_exact (weightTo S n k i) (turnF (k % 2 ^ d * 2 ^ (8 - d))) (weight_held S n k i (by omega)) (turnF_small _))
        obtain ⟨s1, s2, s3, s4, s5, s6⟩ := sizes d hd1 hd4
        have z3 := i64_mask d (by omega) k
        have z5 : 0 ≤ k % 2 ^ d := Int.emod_nonneg _ (by omega)
        have z6 : k % 2 ^ d < 2 ^ d := Int.emod_lt_of_pos _ (by omega)
        have z7 : k % 2 ^ d * 2 ^ (8 - d) ≤ 2 ^ d * 2 ^ (8 - d) := Int.mul_le_mul_of_nonneg_right (by omega) (by omega)
        have z8 : 0 ≤ k % 2 ^ d * 2 ^ (8 - d) := Int.mul_nonneg z5 (by omega)
        generalize hD : (2 : Int) ^ d = D at *
        generalize (2 : Int) ^ (8 - d) = F at *
        have z1 : wrap64 (2 ^ (S - i)) = D := by rw [hd, hD]; exact IntWalk.wrap64_in _ (by omega)
        have z9 : wrap64 (k % D * F) = k % D * F := IntWalk.wrap64_in _ (by omega)
        clear hD hd hd1 hd4 s4 s5 s6 z5 z6 z7 z8
        go_wp2_with fail
        first | refine wp_region_grew2 10 (by kernel_rfl) (by kernel_rfl) ?_ | refine wp_region_grew 10 (by kernel_rfl) (by kernel_rfl) ?_
        simp only [List.take_succ_cons, List.take_zero, List.drop_succ_cons, List.drop_zero]
        repeat (go_big_quiet_step (first | (go_at_call 55; exact Calls.grew_of (HT.out (weightTo S n k i) (turnF (k % D * F)) _)) | (go_at_call 22; refine Calls.grew_of (Hu.out _ _ ?_); exact hT.below (by (repeat' (first | (with_reducible exact Below.refl _ _) | (with_reducible assumption) | (with_reducible refine Below.alloc ?_ ?_ _) | (with_reducible refine below_grew ?_ ?_ _) | (with_reducible refine Below.setCell ?_ ?_ _) | (with_reducible refine Below.drew ?_) | (with_reducible refine below_drewN ?_ _) | omega | (simp; done) | (simp; omega)))))))
        refine wpQuiet_nil ?_
        rintro _ ⟨x, rfl⟩
        go_wp2
        go_roundw
        case rel => exact ⟨i + 1, by omega, by go_num, by rw [E.out, ← Ex.out]; simp only [World.grew_grew]; exact ⟨_, rfl⟩⟩
        case measure => simp [intOf]; omega
    · obtain rfl : S = i := by omega
      go_wp2
      refine bodyPost_ret (v := _) (by simp [results, Tryd.results20, go_sem]; rfl) rfl ⟨?_, ?_⟩
      · rfl
      · (repeat' (first | (with_reducible exact Below.refl _ _) | (with_reducible assumption) | (with_reducible refine Below.alloc ?_ ?_ _) | (with_reducible refine below_grew ?_ ?_ _) | (with_reducible refine Below.setCell ?_ ?_ _) | (with_reducible refine Below.drew ?_) | (with_reducible refine below_drewN ?_ _) | omega | (simp; done) | (simp; omega)))
/-- How many bits count. -/
def clampS (s : Int) : Nat := (min (max s 0) 4).toNat
theorem weight_any (s n k : Int) (w : World) (hT : CosW w) :
    Calls Tryd.prog 20 #[.int .i64 s, .int .i64 n, .int .i64 k] w fun e w' => e = .returned (pairAgg (weightF (clampS s) n k)) ∧ Below w.heap.size w w' :=
  weight_walk (clampS s) (by unfold clampS; omega) s _ n k rfl (by unfold clampS; omega) w hT
end Go.Proofs.YtmcjbejccelagaaDoor
