/-
  Two channels get of twice the budget what one gets of it: the plain law.
-/
import Derived.Test.YtmcjbejccelagaaDoorAlloc
namespace Go.Proofs.YtmcjbejccelagaaDoor
open Go.Vec Go.Cost
theorem right_12 (s : Int) : RightP s 1 ↔ RightP s 2 := by unfold RightP; omega
theorem bandsF_12 (s : Int) : bandsF s 2 = bandsF s 1 := by
  unfold bandsF
  simp only [right_12 s]
theorem widthF_12 (s b : Int) : widthF s 2 b = widthF s 1 b := by unfold widthF; rw [bandsF_12]
theorem slopeF_12 (s t b : Int) : slopeF s 2 t b = slopeF s 1 t b := by unfold slopeF; rw [widthF_12]
theorem bestTo_12 (s t : Int) (l : List Int) : ∀ n : Nat, bestTo s 2 t l n = bestTo s 1 t l n
  | 0 => rfl
  | n + 1 => by simp only [bestTo, bestTo_12 s t l n, widthF_12, slopeF_12]
theorem bestF_12 (s t : Int) (l : List Int) : bestF s 2 t l = bestF s 1 t l := by unfold bestF; rw [bandsF_12, bestTo_12]
theorem sumAt_12 (s : Int) (l : List Int) : ∀ n : Nat, sumAt s 2 l n = sumAt s 1 l n
  | 0 => rfl
  | n + 1 => by simp only [sumAt, sumAt_12 s l n, costAt, widthF_12, bandsF_12]
theorem okTo_12 (s : Int) (l : List Int) : ∀ n : Nat, okTo s 2 l n = okTo s 1 l n
  | 0 => rfl
  | n + 1 => by simp only [okTo, okTo_12 s l n, okAt, widthF_12, bandsF_12]
theorem totalF_12 (s : Int) (l : List Int) : totalF s 2 l = 2 * totalF s 1 l ∨ totalF s 2 l = -1 ∧ totalF s 1 l = -1 := by
  unfold totalF
  rw [okTo_12, sumAt_12]
  simp only [← right_12 s]
  split
  · left; omega
  · right; exact ⟨rfl, rfl⟩
theorem allocGo_12 (s t n x : Int) (hn : 0 ≤ n) (hx : 2 * n ≤ x ∧ x ≤ 2 * n + 1) : ∀ (f : Nat) (l : List Int), allocGo s 2 t x f l = allocGo s 1 t n f l
  | 0, _ => rfl
  | f + 1, l => by
    simp only [allocGo, bestF_12]
    split
    · rfl
    · have ht := totalF_12 s (l.set (bestF s 1 t l).toNat (l.getD (bestF s 1 t l).toNat 0 + 1))
      have ih := allocGo_12 s t n x hn hx f (l.set (bestF s 1 t l).toNat (l.getD (bestF s 1 t l).toNat 0 + 1))
      by_cases h : totalF s 1 (l.set (bestF s 1 t l).toNat (l.getD (bestF s 1 t l).toNat 0 + 1)) > n
      · rw [if_pos h, if_pos (by omega)]
      · rw [if_neg h, if_neg (by omega), ih]
theorem allocF_12 (s t n x : Int) (hn : 0 ≤ n) (hx : 2 * n ≤ x ∧ x ≤ 2 * n + 1) : allocF s 2 t x = allocF s 1 t n := allocGo_12 s t n x hn hx _ _
end Go.Proofs.YtmcjbejccelagaaDoor
