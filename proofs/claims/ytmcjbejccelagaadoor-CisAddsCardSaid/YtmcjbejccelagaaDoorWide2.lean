/-
  Products of 128 bits, and pairs of wide numbers (packages wide, cis).
-/
import Derived.Test.YtmcjbejccelagaaDoorCis
namespace Go.Proofs.YtmcjbejccelagaaDoor
open Go.RowKit Go.BigFrame
set_option linter.unusedSimpArgs false

theorem accTimes_any (x n : Int) (h : In64 n) (w : World) :
    Calls Tryd.prog 90 #[accAgg x, .int .i64 n] w fun e w' => e = .returned (accAgg (x * n)) ∧ Below w.heap.size w w' := by
  obtain ⟨f1, f2, f3⟩ := times_facts x n h
  have F1 := Lib.hid f1
  clear h
  unfold hiTimes at f2 f3
  unfold accAgg
  by_cases hn : 0 ≤ n
  · have F2 := Lib.hid (f2 hn)
    clear f1 f2 f3
    go_enter Tryd.func90, Tryd.ntmps90
    go_wp2_with (go_at_call 94; refine (mul64_run _ _ ?_ ?_ _).mono ?_; exact accLo_bd _; exact u64_bd _; rintro e w' ⟨rfl, rfl⟩)
    refine bodyPost_ret (v := _) (by simp [results, Tryd.results90, go_sem]; rfl) rfl ⟨?_, ?_⟩
    · rw [← F1.out, ← F2.out]
    · (repeat' (first | (with_reducible exact Below.refl _ _) | (with_reducible assumption) | (with_reducible refine Below.alloc ?_ ?_ _) | (with_reducible refine below_grew ?_ ?_ _) | (with_reducible refine Below.setCell ?_ ?_ _) | (with_reducible refine Below.drew ?_) | (with_reducible refine below_drewN ?_ _) | omega | (simp; done) | (simp; omega)))
  · have F3 := Lib.hid (f3 (by omega))
    have hn' : n < 0 := by omega
    clear f1 f2 f3 hn
    go_enter Tryd.func90, Tryd.ntmps90
    go_wp2_with (go_at_call 94; refine (mul64_run _ _ ?_ ?_ _).mono ?_; exact accLo_bd _; exact u64_bd _; rintro e w' ⟨rfl, rfl⟩)
    refine bodyPost_ret (v := _) (by simp [results, Tryd.results90, go_sem]; rfl) rfl ⟨?_, ?_⟩
    · rw [← F1.out, ← F3.out]
    · (repeat' (first | (with_reducible exact Below.refl _ _) | (with_reducible assumption) | (with_reducible refine Below.alloc ?_ ?_ _) | (with_reducible refine below_grew ?_ ?_ _) | (with_reducible refine Below.setCell ?_ ?_ _) | (with_reducible refine Below.drew ?_) | (with_reducible refine below_drewN ?_ _) | omega | (simp; done) | (simp; omega)))

theorem mul_any (a b : Int) (ha : In64 a) (hb : In64 b) (w : World) :
    Calls Tryd.prog 80 #[.int .i64 a, .int .i64 b] w fun e w' => e = .returned (accAgg (a * b)) ∧ Below w.heap.size w w' := by
  have h1 := fun w => of_any a ha w
  have h2 := fun w => accTimes_any a b hb w
  have H1 := Lib.hid h1
  have H2 := Lib.hid h2
  clear h1 h2 ha hb
  go_enter Tryd.func80, Tryd.ntmps80
  go_wp2_with fail
  refine (H1.out _).mono ?_
  rintro e w' ⟨rfl, hb1⟩
  obtain ⟨x1, rfl⟩ := below_as_grew hb1
  clear hb1
  go_wp2_with fail
  refine (H2.out _).mono ?_
  rintro e w' ⟨rfl, hb1⟩
  obtain ⟨x2, rfl⟩ := below_as_grew hb1
  clear hb1
  unfold accAgg
  go_wp2
  refine bodyPost_ret (v := _) (by simp [results, Tryd.results80, go_sem]; rfl) rfl ⟨?_, ?_⟩
  · rfl
  · (repeat' (first | (with_reducible exact Below.refl _ _) | (with_reducible assumption) | (with_reducible refine Below.alloc ?_ ?_ _) | (with_reducible refine below_grew ?_ ?_ _) | (with_reducible refine Below.setCell ?_ ?_ _) | (with_reducible refine Below.drew ?_) | (with_reducible refine below_drewN ?_ _) | omega | (simp; done) | (simp; omega)))

/-- A pair of wide numbers, as a value. -/
def bigAgg (x y : Int) : Value := .agg #[.int .i64 (accHi x), .int .u64 (accLo x), .int .i64 (accHi y), .int .u64 (accLo y)]

theorem bigPlus_any (a b c d : Int) (w : World) :
    Calls Tryd.prog 24 #[bigAgg a b, bigAgg c d] w fun e w' => e = .returned (bigAgg (a + c) (b + d)) ∧ Below w.heap.size w w' := by
  have h1 := fun x y w => plus_any x y w
  unfold accAgg at h1
  have H := Lib.hid h1
  clear h1
  unfold bigAgg
  go_enter Tryd.func24, Tryd.ntmps24
  go_wp2
  first | refine wp_region_grew2 11 (by kernel_rfl) (by kernel_rfl) ?_ | refine wp_region_grew 11 (by kernel_rfl) (by kernel_rfl) ?_
  simp only [List.take_succ_cons, List.take_zero, List.drop_succ_cons, List.drop_zero]
  repeat (go_big_quiet_step (refine Calls.grew_of (H.out _ _ _)))
  refine wpQuiet_nil ?_
  rintro _ ⟨x, rfl⟩
  go_wp2
  refine bodyPost_ret (v := _) (by simp [results, Tryd.results24, go_sem]; rfl) rfl ⟨?_, ?_⟩
  · rfl
  · (repeat' (first | (with_reducible exact Below.refl _ _) | (with_reducible assumption) | (with_reducible refine Below.alloc ?_ ?_ _) | (with_reducible refine below_grew ?_ ?_ _) | (with_reducible refine Below.setCell ?_ ?_ _) | (with_reducible refine Below.drew ?_) | (with_reducible refine below_drewN ?_ _) | omega | (simp; done) | (simp; omega)))

theorem bigMinus_any (a b c d : Int) (w : World) :
    Calls Tryd.prog 25 #[bigAgg a b, bigAgg c d] w fun e w' => e = .returned (bigAgg (a - c) (b - d)) ∧ Below w.heap.size w w' := by
  have h1 := fun x y w => minus_any x y w
  unfold accAgg at h1
  have H := Lib.hid h1
  clear h1
  unfold bigAgg
  go_enter Tryd.func25, Tryd.ntmps25
  go_wp2
  first | refine wp_region_grew2 11 (by kernel_rfl) (by kernel_rfl) ?_ | refine wp_region_grew 11 (by kernel_rfl) (by kernel_rfl) ?_
  simp only [List.take_succ_cons, List.take_zero, List.drop_succ_cons, List.drop_zero]
  repeat (go_big_quiet_step (refine Calls.grew_of (H.out _ _ _)))
  refine wpQuiet_nil ?_
  rintro _ ⟨x, rfl⟩
  go_wp2
  refine bodyPost_ret (v := _) (by simp [results, Tryd.results25, go_sem]; rfl) rfl ⟨?_, ?_⟩
  · rfl
  · (repeat' (first | (with_reducible exact Below.refl _ _) | (with_reducible assumption) | (with_reducible refine Below.alloc ?_ ?_ _) | (with_reducible refine below_grew ?_ ?_ _) | (with_reducible refine Below.setCell ?_ ?_ _) | (with_reducible refine Below.drew ?_) | (with_reducible refine below_drewN ?_ _) | omega | (simp; done) | (simp; omega)))

theorem pairBig_any (a b c d : Int) (ha : In64 a) (hb : In64 b) (hc : In64 c) (hd : In64 d) (w : World) :
    Calls Tryd.prog 60 #[pairAgg (a, b), pairAgg (c, d)] w fun e w' => e = .returned (bigAgg (a * c - b * d) (a * d + b * c)) ∧ Below w.heap.size w w' := by
  have m1 := mul_any
  have p1 := plus_any
  have p2 := minus_any
  unfold accAgg at m1 p1 p2
  have M1 := Lib.hid m1
  have P1 := Lib.hid p1
  have P2 := Lib.hid p2
  clear m1 p1 p2
  unfold pairAgg
  go_enter Tryd.func60, Tryd.ntmps60
  go_wp2
  first | refine wp_region_grew2 23 (by kernel_rfl) (by kernel_rfl) ?_ | refine wp_region_grew 23 (by kernel_rfl) (by kernel_rfl) ?_
  simp only [List.take_succ_cons, List.take_zero, List.drop_succ_cons, List.drop_zero]
  repeat (go_big_quiet_step (first | (go_at_call 80; refine Calls.grew_of (M1.out _ _ ?_ ?_ _) <;> assumption) | (go_at_call 61; exact Calls.grew_of (P1.out _ _ _)) | (go_at_call 62; exact Calls.grew_of (P2.out _ _ _))))
  refine wpQuiet_nil ?_
  rintro _ ⟨x, rfl⟩
  go_wp2
  refine bodyPost_ret (v := _) (by simp [results, Tryd.results60, go_sem]; rfl) rfl ⟨?_, ?_⟩
  · rfl
  · (repeat' (first | (with_reducible exact Below.refl _ _) | (with_reducible assumption) | (with_reducible refine Below.alloc ?_ ?_ _) | (with_reducible refine below_grew ?_ ?_ _) | (with_reducible refine Below.setCell ?_ ?_ _) | (with_reducible refine Below.drew ?_) | (with_reducible refine below_drewN ?_ _) | omega | (simp; done) | (simp; omega)))
end Go.Proofs.YtmcjbejccelagaaDoor
