/-
  What the document says of costs.
-/
import Derived.Test.YtmcjbejccelagaaDoorRefAlloc
import Derived.Test.YtmcjbejccelagaaDoorCostP
namespace Go.Proofs.YtmcjbejccelagaaDoor
open Go.RowKit Go.Cost Go.Proofs.YtmcjbejccelagaaDoorW.PrintWords
open RAllocTells

def rowL (n : Nat) : List Int := (List.range (cap n + 1)).map fun k => ((pays n k : Nat) : Int)
set_option maxRecDepth 100000 in
theorem row_table : ∀ n : Fin 16, spinetref13_Row.f 2000 ((n.val + 1 : Nat) : Int) = some (rowL (n.val + 1)) := by decide +kernel
theorem row_in (n : Nat) (hn : 1 ≤ n ∧ n ≤ 16) : spinetref13_Row.f 2000 (n : Int) = some (rowL n) := by
  have := row_table ⟨n - 1, by omega⟩
  simpa only [show n - 1 + 1 = n by omega] using this
theorem row_out (n : Int) (hn : ¬(1 ≤ n ∧ n ≤ 16)) : spinetref13_Row.f 2 n = some [] := by
  simp only [spinetref13_Row.f, spinetref13_Row.j0]
  by_cases h : n < 1
  · simp [h]
  · simp [h, show n > 16 by omega]
theorem rowL_len (n : Nat) : (rowL n).length = cap n + 1 := by simp [rowL]
theorem rowL_at (n k : Nat) (hk : k ≤ cap n) : (rowL n)[k]? = some ((pays n k : Nat) : Int) := by
  simp [rowL, show k < cap n + 1 by omega]

theorem refCap (n : Int) (w : World) : Calls Tryd.prog 38 #[.int .i64 n] w fun e w' => e = .returned (.int .i64 (capF n)) ∧ Below w.heap.size w w' := by
  by_cases hn : 1 ≤ n ∧ n ≤ 16
  · obtain ⟨N, rfl⟩ := Int.eq_ofNat_of_zero_le (show 0 ≤ n by omega)
    refine spinetref13_Cap.calls 2000 N _ w ?_
    have hc := cap_le ⟨N, by omega⟩
    simp only at hc
    simp only [spinetref13_Cap.f, row_in N (by omega), Option.bind_some, rowL_len, capF_in _ hn]
    congr 1
    simp only [Int.toNat_natCast]
    unfold wrap64
    omega
  · refine spinetref13_Cap.calls 2 n _ w ?_
    simp [spinetref13_Cap.f, row_out n hn, capF_out n hn, wrap64]
theorem rd_at (xs : List Int) (k : Nat) (x : Int) (h : xs[k]? = some x) : rd xs (k : Int) = x := by
  unfold rd
  simp [h]
theorem refBits (n k : Int) (w : World) : Calls Tryd.prog 67 #[.int .i64 n, .int .i64 k] w fun e w' => e = .returned (.int .i64 (bitsF n k)) ∧ Below w.heap.size w w' := by
  by_cases hn : 1 ≤ n ∧ n ≤ 16
  · obtain ⟨N, rfl⟩ := Int.eq_ofNat_of_zero_le (show 0 ≤ n by omega)
    refine spinetref13_Bits.calls 2000 N k _ w ?_
    simp only [spinetref13_Bits.f, row_in N (by omega), Option.bind_some, rowL_len, bitsF, capF_in _ hn, Int.toNat_natCast]
    by_cases h0 : k < 0
    · rw [if_pos h0, if_neg (by omega)]
    · rw [if_neg h0]
      by_cases h1 : k ≥ ((cap N + 1 : Nat) : Int)
      · rw [if_pos h1, if_neg (by omega)]
      · rw [if_neg h1, if_pos (by omega), if_pos (by omega), if_pos (by omega)]
        obtain ⟨K, rfl⟩ := Int.eq_ofNat_of_zero_le (show 0 ≤ k by omega)
        rw [rd_at _ _ _ (rowL_at N K (by omega))]
        simp
  · refine spinetref13_Bits.calls 2 n k _ w ?_
    simp only [spinetref13_Bits.f, row_out n hn, Option.bind_some, bitsF, capF_out n hn, List.length_nil]
    by_cases h0 : k < 0
    · rw [if_pos h0, if_neg (by omega)]
    · rw [if_neg h0, if_pos (by omega), if_neg (by omega)]
end Go.Proofs.YtmcjbejccelagaaDoor
