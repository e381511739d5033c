/-
  The numbers of 128 bits (package wide): what each call comes to, as a whole number modulo 2^128.
-/
import Derived.Test.YtmcjbejccelagaaDoorProg
import Derived.Test.YtmcjbejccelagaaDoorKit
import Derived.Laws.Externs
import Derived.Outline
import Derived.Shelf.Spec.BitsCarry
import Derived.Test.YtmcjbejccelagaaDoorShelf
set_option linter.unusedSimpArgs false
namespace Go.Proofs.YtmcjbejccelagaaDoor
open Go.RowKit Go.BigFrame

/-- The high and the low word of a whole number, modulo 2^128. -/
def accHi (z : Int) : Int := wrap64 (z / 18446744073709551616)
def accLo (z : Int) : Int := z % 18446744073709551616
def accAgg (z : Int) : Value := .agg #[.int .i64 (accHi z), .int .u64 (accLo z)]

theorem accLo_bd (z : Int) : 0 ≤ accLo z ∧ accLo z ≤ 18446744073709551615 := by unfold accLo; omega
/-- Sum and carry of two low words. -/
def addSum (x y c : Int) : Int := (x + y + c) % 18446744073709551616
def addCar (x y c : Int) : Int := (x + y + c) / 18446744073709551616
def subDif (x y c : Int) : Int := (x - y - c) % 18446744073709551616
def subBor (x y c : Int) : Int := if x < y + c then 1 else 0

theorem add64_run (x y c : Int) (hx : 0 ≤ x) (hy : 0 ≤ y) (hc : 0 ≤ c ∧ c ≤ 1) (w : World) :
    (callFunc 81 #[.int .u64 x, .int .u64 y, .int .u64 c]).run Tryd.prog w = .ok (.value (.tuple #[.int .u64 (addSum x y c), .int .u64 (addCar x y c)])) w := by
  rw [run_callFunc_extern Tryd.func81 (by kernel_rfl) (by kernel_rfl) (by kernel_rfl) (e := add64Entry) (by kernel_rfl), run_add64 x y c hx hy hc.1 hc.2]
  rfl

theorem add_facts (x y : Int) : addSum (accLo x) (accLo y) 0 = accLo (x + y) ∧ (0 ≤ addCar (accLo x) (accLo y) 0 ∧ addCar (accLo x) (accLo y) 0 ≤ 1) ∧
    wrap64 (addSum (IntKind.u64.wrap (accHi x)) (IntKind.u64.wrap (accHi y)) (addCar (accLo x) (accLo y) 0)) = accHi (x + y) := by
  rw [IntKind.wrap_u64, IntKind.wrap_u64]
  unfold addSum addCar accLo accHi wrap64
  omega

theorem u64_nonneg (x : Int) : 0 ≤ IntKind.u64.wrap x := by rw [IntKind.wrap_u64]; omega

theorem plus_any (x y : Int) (w : World) :
    Calls Tryd.prog 61 #[accAgg x, accAgg y] w fun e w' => e = .returned (accAgg (x + y)) ∧ Below w.heap.size w w' := by
  unfold accAgg
  go_enter Tryd.func61, Tryd.ntmps61
  go_wp2_with (rw [add64_run _ _ _ ?_ ?_ ?_])
  · refine bodyPost_ret (v := _) (by simp [results, Tryd.results61, go_sem]; rfl) rfl ⟨?_, ?_⟩
    · rw [(add_facts x y).1, (add_facts x y).2.2]
    · (repeat' (first | (with_reducible exact Below.refl _ _) | (with_reducible assumption) | (with_reducible refine Below.alloc ?_ ?_ _) | (with_reducible refine below_grew ?_ ?_ _) | (with_reducible refine Below.setCell ?_ ?_ _) | (with_reducible refine Below.drew ?_) | (with_reducible refine below_drewN ?_ _) | omega | (simp; done) | (simp; omega)))
  · exact u64_nonneg _
  · exact u64_nonneg _
  · exact (add_facts x y).2.1
  · exact (accLo_bd x).1
  · exact (accLo_bd y).1
  · omega

theorem sub64_run (x y b : Int) (hx : 0 ≤ x ∧ x ≤ 18446744073709551615) (hy : 0 ≤ y ∧ y ≤ 18446744073709551615) (hb : 0 ≤ b ∧ b ≤ 1) (w : World) :
    (callFunc 82 #[.int .u64 x, .int .u64 y, .int .u64 b]).run Tryd.prog w = .ok (.value (.tuple #[.int .u64 (subDif x y b), .int .u64 (subBor x y b)])) w := by
  obtain ⟨X, rfl⟩ := Int.eq_ofNat_of_zero_le hx.1
  obtain ⟨Y, rfl⟩ := Int.eq_ofNat_of_zero_le hy.1
  obtain ⟨B, rfl⟩ := Int.eq_ofNat_of_zero_le hb.1
  rw [run_callFunc_extern Tryd.func82 (by kernel_rfl) (by kernel_rfl) (by kernel_rfl) (e := Go.Proofs.sub64Entry) (by kernel_rfl), Go.Proofs.run_sub64 X Y B (by omega)]
  have h1 : (((X + 18446744073709551616 - Y - B) % 18446744073709551616 : Nat) : Int) = ((X : Int) - Y - B) % 18446744073709551616 := by omega
  have h2 : ((if X < Y + B then 1 else 0 : Nat) : Int) = if (X : Int) < Y + B then 1 else 0 := by split <;> split <;> omega
  rw [h1, h2]
  rfl

theorem sub_facts (x y : Int) : subDif (accLo x) (accLo y) 0 = accLo (x - y) ∧ (0 ≤ subBor (accLo x) (accLo y) 0 ∧ subBor (accLo x) (accLo y) 0 ≤ 1) ∧
    wrap64 (subDif (IntKind.u64.wrap (accHi x)) (IntKind.u64.wrap (accHi y)) (subBor (accLo x) (accLo y) 0)) = accHi (x - y) := by
  rw [IntKind.wrap_u64, IntKind.wrap_u64]
  unfold subDif subBor accLo accHi wrap64
  split <;> omega

theorem u64_bd (x : Int) : 0 ≤ IntKind.u64.wrap x ∧ IntKind.u64.wrap x ≤ 18446744073709551615 := by rw [IntKind.wrap_u64]; omega

theorem minus_any (x y : Int) (w : World) :
    Calls Tryd.prog 62 #[accAgg x, accAgg y] w fun e w' => e = .returned (accAgg (x - y)) ∧ Below w.heap.size w w' := by
  unfold accAgg
  go_enter Tryd.func62, Tryd.ntmps62
  go_wp2_with (rw [sub64_run _ _ _ ?_ ?_ ?_])
  · refine bodyPost_ret (v := _) (by simp [results, Tryd.results62, go_sem]; rfl) rfl ⟨?_, ?_⟩
    · rw [(sub_facts x y).1, (sub_facts x y).2.2]
    · (repeat' (first | (with_reducible exact Below.refl _ _) | (with_reducible assumption) | (with_reducible refine Below.alloc ?_ ?_ _) | (with_reducible refine below_grew ?_ ?_ _) | (with_reducible refine Below.setCell ?_ ?_ _) | (with_reducible refine Below.drew ?_) | (with_reducible refine below_drewN ?_ _) | omega | (simp; done) | (simp; omega)))
  · exact u64_bd _
  · exact u64_bd _
  · exact (sub_facts x y).2.1
  · exact accLo_bd x
  · exact accLo_bd y
  · omega

theorem of_words (x : Int) (h : -9223372036854775808 ≤ x ∧ x ≤ 9223372036854775807) : x / 2 ^ 63 = accHi x ∧ IntKind.u64.wrap x = accLo x := by
  rw [IntKind.wrap_u64]
  have : (2 : Int) ^ 63 = 9223372036854775808 := by decide
  rw [this]
  unfold accHi accLo wrap64
  omega

/-- A number of 64 bits. -/
def In64 (x : Int) : Prop := -9223372036854775808 ≤ x ∧ x ≤ 9223372036854775807

theorem of_any (x : Int) (h : In64 x) (w : World) :
    Calls Tryd.prog 54 #[.int .i64 x] w fun e w' => e = .returned (accAgg x) ∧ Below w.heap.size w w' := by
  have E := Lib.hid (of_words x h)
  clear h
  unfold accAgg
  go_enter Tryd.func54, Tryd.ntmps54
  go_wp2
  refine bodyPost_ret (v := _) (by simp [results, Tryd.results54, go_sem]; rfl) rfl ⟨?_, ?_⟩
  · rw [← E.out.1, ← E.out.2]; rfl
  · (repeat' (first | (with_reducible exact Below.refl _ _) | (with_reducible assumption) | (with_reducible refine Below.alloc ?_ ?_ _) | (with_reducible refine below_grew ?_ ?_ _) | (with_reducible refine Below.setCell ?_ ?_ _) | (with_reducible refine Below.drew ?_) | (with_reducible refine below_drewN ?_ _) | omega | (simp; done) | (simp; omega)))

theorem len_any (x : Int) (w : World) (h0 : 0 ≤ x) (h1 : x ≤ 18446744073709551615) :
    Calls Tryd.prog 59 #[.int .u64 x] w fun e w' => e = .returned (.int .i64 (Lib.bitLen x.toNat)) ∧ w = w' := (Tryd.bits_Len x w h0 h1).mono fun _ _ ⟨a, b⟩ => ⟨a, b.symm⟩
theorem len64_any (x : Int) (w : World) (h0 : 0 ≤ x) (h1 : x ≤ 18446744073709551615) :
    Calls Tryd.prog 79 #[.int .u64 x] w fun e w' => e = .returned (.int .i64 (Lib.bitLen x.toNat)) ∧ w = w' := (Tryd.bits_Len64 x w h0 h1).mono fun _ _ ⟨a, b⟩ => ⟨a, b.symm⟩

/-- High and low word of a product of two words. -/
def mulHi (x y : Int) : Int := x * y / 18446744073709551616
def mulLo (x y : Int) : Int := x * y % 18446744073709551616
theorem mul64_run (x y : Int) (hx : 0 ≤ x ∧ x ≤ 18446744073709551615) (hy : 0 ≤ y ∧ y ≤ 18446744073709551615) (w : World) :
    Calls Tryd.prog 94 #[.int .u64 x, .int .u64 y] w fun e w' => e = .returned (.tuple #[.int .u64 (mulHi x y), .int .u64 (mulLo x y)]) ∧ w = w' := by
  obtain ⟨X, rfl⟩ := Int.eq_ofNat_of_zero_le hx.1
  obtain ⟨Y, rfl⟩ := Int.eq_ofNat_of_zero_le hy.1
  refine (Tryd.bits_Mul64 X Y (by omega) (by omega) w).mono fun e w' ⟨he, hw⟩ => ⟨?_, hw.symm⟩
  rw [he]
  unfold mulHi mulLo
  simp

/-- The high word of a product by a number with a sign. -/
def hiTimes (x n : Int) : Int := IntKind.u64.wrap (mulHi (accLo x) (IntKind.u64.wrap n) + IntKind.u64.wrap (IntKind.u64.wrap (accHi x) * IntKind.u64.wrap n))

theorem acc_of_eq {a b : Int} (h : a % 340282366920938463463374607431768211456 = b % 340282366920938463463374607431768211456) : accHi a = accHi b ∧ accLo a = accLo b := by
  unfold accHi accLo wrap64
  omega

theorem split_words (x : Int) : ∃ k, x = accHi x * 18446744073709551616 + accLo x + k * 340282366920938463463374607431768211456 := by
  refine ⟨(x / 18446744073709551616 - accHi x) / 18446744073709551616, ?_⟩
  unfold accHi accLo wrap64
  omega

theorem times_facts (x n : Int) (h : In64 n) : mulLo (accLo x) (IntKind.u64.wrap n) = accLo (x * n) ∧
    (0 ≤ n → wrap64 (hiTimes x n) = accHi (x * n)) ∧ (n < 0 → wrap64 (IntKind.u64.wrap (hiTimes x n - accLo x)) = accHi (x * n)) := by
  obtain ⟨k, hk⟩ := split_words x
  unfold hiTimes
  have hl := accLo_bd x
  unfold In64 at h
  have hx : accHi x * n = accHi x * n := rfl
  generalize accHi x = H at *
  generalize hL : accLo x = L at *
  -- the product, by words
  have e1 : x * n = H * n * 18446744073709551616 + L * n + k * n * 340282366920938463463374607431768211456 := by
    rw [hk]; grind
  have wn : ∃ t : Int, (t = 0 ∨ t = 1) ∧ (0 ≤ n → t = 0) ∧ (n < 0 → t = 1) ∧ IntKind.u64.wrap n = n + t * 18446744073709551616 := by
    rw [IntKind.wrap_u64]
    by_cases hn : 0 ≤ n
    · exact ⟨0, .inl rfl, fun _ => rfl, fun h' => by omega, by omega⟩
    · exact ⟨1, .inr rfl, fun h' => by omega, fun _ => rfl, by omega⟩
  obtain ⟨t, ht, ht0, ht1, hw⟩ := wn
  have wH : ∃ u : Int, IntKind.u64.wrap H = H + u * 18446744073709551616 := by
    rw [IntKind.wrap_u64]
    exact ⟨-(H / 18446744073709551616), by omega⟩
  obtain ⟨u, hu⟩ := wH
  rw [hw, hu, e1]
  have e2 : L * (n + t * 18446744073709551616) = L * n + L * t * 18446744073709551616 := by grind
  have e3 : (H + u * 18446744073709551616) * (n + t * 18446744073709551616) = H * n + (H * t + u * n + u * t * 18446744073709551616) * 18446744073709551616 := by grind
  unfold mulLo mulHi
  rw [e2, e3]
  simp only [IntKind.wrap_u64]
  generalize H * n = p at *
  generalize L * n = q at *
  generalize k * n = r at *
  generalize H * t + u * n + u * t * 18446744073709551616 = v at *
  rcases ht with rfl | rfl
  · simp only [Int.mul_zero, Int.zero_mul, Int.add_zero]
    unfold accHi accLo wrap64
    refine ⟨by omega, fun _ => by omega, fun h' => by have := ht1 h'; omega⟩
  · simp only [Int.mul_one]
    unfold accHi accLo wrap64
    refine ⟨by omega, fun h' => by have := ht0 h'; omega, fun _ => by omega⟩
end Go.Proofs.YtmcjbejccelagaaDoor
