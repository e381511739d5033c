/-
  What vectors cost, as tables of plain numbers.
-/
import Derived.Test.YtmcjbejccelagaaDoorVec
import Derived.Lib.BitFns
import Derived.Test.YtmcjbejccelagaaDoorKit
namespace Go.Cost
open Go.Vec
def capS (n : Nat) : Nat := ((List.range 32).takeWhile fun k => decide (v n (k + 1) ≤ 1048576)).length
def cap (n : Nat) : Nat := if n ≤ 8 then capS n else min (capS (n / 2)) (capS (n - n / 2))
def bitsS (n k : Nat) : Nat := if k = 0 then 0 else Lib.bitLen (v n k - 1) + 1
def mx (n k : Nat) : Nat → Nat
  | 0 => 0
  | a + 1 => max (mx n k a) (bitsS (n / 2) a + bitsS (n - n / 2) (k - a))
def pays (n k : Nat) : Nat := if k = 0 then 0 else if n ≤ 8 then bitsS n k else Lib.bitLen k + 1 + mx n k (k + 1)
theorem capS_in : ∀ n : Fin 9, ∀ k : Fin 32, k.val < capS n.val → v n.val (k.val + 1) ≤ 1048576 := by decide +kernel
theorem capS_out : ∀ n : Fin 9, capS n.val < 32 → 1048576 < v n.val (capS n.val + 1) := by decide +kernel
theorem capS_le : ∀ n : Fin 17, capS n.val ≤ 32 := by decide +kernel
theorem cap_le : ∀ n : Fin 17, cap n.val ≤ 32 := by decide +kernel
theorem pays_le : ∀ n : Fin 17, ∀ k : Fin 33, pays n.val k.val ≤ 200 := by decide +kernel
theorem bitsS_le : ∀ n : Fin 17, ∀ k : Fin 33, bitsS n.val k.val ≤ 100 := by decide +kernel
theorem v_pos : ∀ n : Fin 16, ∀ k : Fin 32, 2 ≤ v (n.val + 1) (k.val + 1) := by decide +kernel
theorem mx_le (n k : Nat) (hn : n ≤ 16) (hk : k ≤ 32) : ∀ a, a ≤ k + 1 → mx n k a ≤ 200
  | 0, _ => by simp [mx]
  | a + 1, h => by
    have h1 := mx_le n k hn hk a (by omega)
    have h2 := bitsS_le ⟨n / 2, by omega⟩ ⟨a, by omega⟩
    have h3 := bitsS_le ⟨n - n / 2, by omega⟩ ⟨k - a, by omega⟩
    simp only at h2 h3
    simp only [mx]
    omega
/-- The greatest number of pulses: -1 outside. -/
def capF (n : Int) : Int := if 1 ≤ n ∧ n ≤ 16 then (cap n.toNat : Nat) else -1
/-- What pulses cost: -1 outside. -/
def bitsF (n k : Int) : Int := if 0 ≤ k ∧ k ≤ capF n then (pays n.toNat k.toNat : Nat) else -1
theorem capF_in (n : Int) (h : 1 ≤ n ∧ n ≤ 16) : capF n = (cap n.toNat : Nat) := by unfold capF; rw [if_pos h]
theorem capF_out (n : Int) (h : ¬(1 ≤ n ∧ n ≤ 16)) : capF n = -1 := by unfold capF; rw [if_neg h]
theorem capF_bd (n : Int) : -1 ≤ capF n ∧ capF n ≤ 32 := by
  unfold capF
  split
  · rename_i h
    have := cap_le ⟨n.toNat, by omega⟩
    simp only at this
    omega
  · omega
theorem capF_pos (n k : Int) (h0 : 0 ≤ k) (h : k ≤ capF n) : 1 ≤ n ∧ n ≤ 16 ∧ k ≤ 32 := by
  have hb := capF_bd n
  unfold capF at h
  split at h
  · rename_i h1
    have := cap_le ⟨n.toNat, by omega⟩
    simp only at this
    exact ⟨h1.1, h1.2, by omega⟩
  · omega
/-- The round of 'Cap': one more pulse. -/
theorem cap_step (n : Int) (k : Nat) (h : 1 ≤ n ∧ n ≤ 8) (hk : k < 32) (hc : k ≤ cap n.toNat) : decide (vF n ((k : Int) + 1) ≤ 1048576) = decide (k < cap n.toNat) := by
  have e : cap n.toNat = capS n.toNat := by unfold cap; rw [if_pos (by omega)]
  rw [e] at hc ⊢
  unfold vF
  rw [if_pos (by omega)]
  have e2 : ((k : Int) + 1).toNat = k + 1 := by omega
  rw [e2]
  have h1 := capS_in ⟨n.toNat, by omega⟩ ⟨k, by omega⟩
  have h2 := capS_out ⟨n.toNat, by omega⟩
  simp only at h1 h2
  by_cases hlt : k < capS n.toNat
  · have := h1 hlt
    rw [decide_eq_true hlt, decide_eq_true (by omega)]
  · have : k = capS n.toNat := by omega
    subst this
    have := h2 hk
    rw [decide_eq_false hlt, decide_eq_false (by omega)]
theorem cap_32 (n : Int) (h : 1 ≤ n ∧ n ≤ 8) : cap n.toNat ≤ 32 := by
  have := cap_le ⟨n.toNat, by omega⟩
  simpa using this
theorem cap_wide (n : Int) (h : 9 ≤ n ∧ n ≤ 16) : capF n = min (capF (n / 2)) (capF (n - n / 2)) := by
  rw [capF_in n (by omega), capF_in (n / 2) (by omega), capF_in (n - n / 2) (by omega)]
  unfold cap
  rw [if_neg (by omega), if_pos (by omega), if_pos (by omega), show (n / 2).toNat = n.toNat / 2 by omega, show (n - n / 2).toNat = n.toNat - n.toNat / 2 by omega]
  omega
theorem pays_small (n k : Int) (hn : 1 ≤ n ∧ n ≤ 8) (hk : 1 ≤ k ∧ k ≤ 32) : (pays n.toNat k.toNat : Nat) = (Lib.bitLen (IntKind.u64.wrap (vF n k - 1)).toNat : Nat) + 1 := by
  unfold pays bitsS vF
  have := v_pos ⟨(n - 1).toNat, by omega⟩ ⟨(k - 1).toNat, by omega⟩
  have hle := v_le ⟨n.toNat, by omega⟩ ⟨k.toNat, by omega⟩
  simp only at this hle
  rw [show (n - 1).toNat + 1 = n.toNat by omega, show (k - 1).toNat + 1 = k.toNat by omega] at this
  rw [if_neg (by omega), if_pos (by omega), if_neg (by omega), if_pos (by omega), IntKind.wrap_u64]
  congr 2
  omega
theorem pays_zero (n : Nat) : pays n 0 = 0 := rfl
theorem pays_eqS (n k : Nat) (hn : n ≤ 8) : pays n k = bitsS n k := by
  unfold pays bitsS
  by_cases h : k = 0
  · rw [if_pos h, if_pos h]
  · rw [if_neg h, if_neg h, if_pos hn]
theorem mx_step (n k : Int) (a : Nat) (hn : 9 ≤ n ∧ n ≤ 16) (ha : a ≤ k.toNat) (h0 : 0 ≤ k) :
    mx n.toNat k.toNat (a + 1) = max (mx n.toNat k.toNat a) (pays (n / 2).toNat a + pays (n - n / 2).toNat (k - a).toNat) := by
  rw [pays_eqS _ _ (by omega), pays_eqS _ _ (by omega)]
  simp only [mx]
  rw [show (n / 2).toNat = n.toNat / 2 by omega, show (n - n / 2).toNat = n.toNat - n.toNat / 2 by omega, show (k - a).toNat = k.toNat - a by omega]
theorem pays_wide (n k : Int) (hn : 9 ≤ n ∧ n ≤ 16) (hk : 1 ≤ k ∧ k ≤ 32) : (pays n.toNat k.toNat : Nat) = ((Lib.bitLen k.toNat : Nat) : Int) + 1 + ((mx n.toNat k.toNat (k.toNat + 1) : Nat) : Int) := by
  unfold pays
  rw [if_neg (by omega), if_neg (by omega)]
  omega
end Go.Cost
