/-
  How many vectors there are, as a table of plain numbers.
-/
import Derived.KernelRfl
namespace Go.Vec
/-- The row behind a row: v(k) = up(k) + v(k-1) + up(k-1), from v(0) = 1 on. -/
def rowFrom : Nat → Nat → List Nat → List Nat
  | last, upLast, u :: us => (u + last + upLast) :: rowFrom (u + last + upLast) u us
  | _, _, [] => []
def nextRow : List Nat → List Nat
  | u :: us => 1 :: rowFrom 1 u us
  | [] => []
def row : Nat → List Nat
  | 0 => 1 :: List.replicate 32 0
  | n + 1 => nextRow (row n)
def all : List (List Nat) := (List.range 17).map row
/-- V(n, k), n up to 16, k up to 32. -/
def v (n k : Nat) : Nat := ((row n).getD k 0)

theorem v_rec : ∀ n : Fin 16, ∀ k : Fin 32, v (n.val + 1) (k.val + 1) = v n.val (k.val + 1) + v (n.val + 1) k.val + v n.val k.val := by decide +kernel
theorem v_zero : ∀ n : Fin 17, v n.val 0 = 1 := by decide +kernel
theorem v_none : ∀ k : Fin 32, v 0 (k.val + 1) = 0 := by decide +kernel
theorem v_le : ∀ n : Fin 17, ∀ k : Fin 33, v n.val k.val ≤ 100000000000000000 := by decide +kernel

/-- V of any whole numbers: 0 outside. -/
def vF (n k : Int) : Int := if 0 ≤ n ∧ n ≤ 16 ∧ 0 ≤ k ∧ k ≤ 32 then (v n.toNat k.toNat : Nat) else 0
theorem vF_bd (n k : Int) : 0 ≤ vF n k ∧ vF n k ≤ 100000000000000000 := by
  unfold vF
  split
  · rename_i h
    have := v_le ⟨n.toNat, by omega⟩ ⟨k.toNat, by omega⟩
    simp only at this
    omega
  · omega
theorem vF_out (n k : Int) (h : ¬(0 ≤ n ∧ n ≤ 16 ∧ 0 ≤ k ∧ k ≤ 32)) : vF n k = 0 := by unfold vF; rw [if_neg h]
theorem vF_zero (n : Int) (h : 0 ≤ n ∧ n ≤ 16) : vF n 0 = 1 := by
  unfold vF
  rw [if_pos (by omega)]
  have := v_zero ⟨n.toNat, by omega⟩
  simp only at this
  simp [this]
theorem vF_none (k : Int) (h : 1 ≤ k ∧ k ≤ 32) : vF 0 k = 0 := by
  unfold vF
  rw [if_pos (by omega)]
  have := v_none ⟨(k - 1).toNat, by omega⟩
  simp only at this
  rw [show (k - 1).toNat + 1 = k.toNat by omega] at this
  simp [this]
theorem vF_rec (n k : Int) (hn : 1 ≤ n ∧ n ≤ 16) (hk : 1 ≤ k ∧ k ≤ 32) : vF n k = vF (n - 1) k + vF n (k - 1) + vF (n - 1) (k - 1) := by
  unfold vF
  rw [if_pos (by omega), if_pos (by omega), if_pos (by omega), if_pos (by omega)]
  have := v_rec ⟨(n - 1).toNat, by omega⟩ ⟨(k - 1).toNat, by omega⟩
  simp only at this
  rw [show (n - 1).toNat + 1 = n.toNat by omega, show (k - 1).toNat + 1 = k.toNat by omega] at this
  omega
end Go.Vec
