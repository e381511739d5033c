/-
  The statements of layer 13, walked: the others.
-/
import Derived.Test.YtmcjbejccelagaaCostLaw
namespace Go.Proofs.Ytmcjbejccelagaa
open Go.RowKit Go.BigFrame Go.Vec Go.Cost
set_option linter.unusedSimpArgs false
set_option linter.unusedVariables false

theorem rises_tab : ∀ a : Fin 16, ∀ c : Fin 32, c.val < cap (a.val + 1) → pays (a.val + 1) c.val ≤ pays (a.val + 1) (c.val + 1) := by decide +kernel
theorem rises_first : ∀ a : Fin 16, 2 ≤ pays (a.val + 1) 1 ∧ 2 ≤ cap (a.val + 1) := by decide +kernel
theorem bitsF_nat (a k : Nat) (ha : 1 ≤ a ∧ a ≤ 16) (hk : k ≤ cap a) : bitsF a k = (pays a k : Nat) := by
  unfold bitsF
  rw [capF_in _ (by omega), if_pos (by simp; omega)]
  simp
theorem capF_nat (a : Nat) (ha : 1 ≤ a ∧ a ≤ 16) : capF a = (cap a : Nat) := by
  rw [capF_in _ (by omega)]
  simp
theorem rises_facts (A : Int) (hA : 1 ≤ A ∧ A ≤ 16) : 2 ≤ capF A ∧ capF A ≤ 32 ∧ bitsF A (capF A + 1) = -1 ∧ ∀ c : Int, 0 ≤ c → c < capF A →
    0 ≤ bitsF A c ∧ bitsF A c ≤ bitsF A (c + 1) ∧ bitsF A (c + 1) ≤ 200 ∧ (c = 0 → bitsF A c = 0 ∧ 2 ≤ bitsF A (c + 1)) := by
  obtain ⟨a, rfl⟩ := Int.eq_ofNat_of_zero_le (show 0 ≤ A by omega)
  have hf := rises_first ⟨a - 1, by omega⟩
  have hle := cap_le32 a (by omega)
  simp only [show a - 1 + 1 = a by omega] at hf
  have hc := capF_nat a (by omega)
  refine ⟨by omega, by omega, by unfold bitsF; rw [if_neg (by omega)], fun c h0 h1 => ?_⟩
  obtain ⟨k, rfl⟩ := Int.eq_ofNat_of_zero_le h0
  have ht := rises_tab ⟨a - 1, by omega⟩ ⟨k, by omega⟩
  simp only [show a - 1 + 1 = a by omega] at ht
  have ht := ht (by omega)
  have hb := pays_100 a (k + 1) (by omega) (by omega)
  have e1 := bitsF_nat a k (by omega) (by omega)
  have e2 := bitsF_nat a (k + 1) (by omega) (by omega)
  rw [show ((k + 1 : Nat) : Int) = (k : Int) + 1 by omega] at e2
  rw [e1, e2]
  refine ⟨by omega, by omega, by omega, fun hk => ?_⟩
  obtain rfl : k = 0 := by omega
  exact ⟨rfl, by have := hf.1; show (2 : Int) ≤ (pays a 1 : Nat); omega⟩

theorem costRises_walk (n k : Int) (hn : 0 ≤ n ∧ n ≤ 255) (hk : 0 ≤ k ∧ k ≤ 255) (w : World) : Calls Try.prog 4 #[.int .u8 n, .int .u8 k] w fun e w' => e = .returned (.bool true) ∧ Below w.heap.size w w' := by
  have ha := Lib.hid awake13
  have h0 := Lib.hid (desk_new w)
  obtain ⟨f1, f2, f3, f4⟩ := rises_facts (1 + n % 16) (by omega)
  obtain ⟨n1, n2⟩ := hn
  obtain ⟨k1, k2⟩ := hk
  have r1 : 0 ≤ k % capF (1 + n % 16) := Int.emod_nonneg _ (by omega)
  have r2 : k % capF (1 + n % 16) < capF (1 + n % 16) := Int.emod_lt_of_pos _ (by omega)
  obtain ⟨g1, g2, g3, g4⟩ := f4 _ r1 r2
  have F := Lib.hid f4
  have G4 := Lib.hid g4
  clear f4 g4
  go_enter Try.func4, Try.ntmps4
  go_wp2_with fail
  refine (ha.out _).mono ?_
  rintro e w1 ⟨rfl, hb1⟩
  go_wp2_with fail
  refine (h0.out _ hb1).mono ?_
  clear hb1
  rintro e w1 ⟨b, m, rfl, hD⟩
  go_wp2_with fail
  refine (desk_tab hD).mono ?_
  clear hD
  rintro e w2 ⟨t, rfl, hD, hT, ht⟩
  go_wp2_with fail
  refine (desk_sheet hD hT ht).mono ?_
  clear hD hT ht
  rintro e w2 ⟨s, rfl, hD⟩
  by_cases hc : k % capF (1 + n % 16) = 0
  · have hc1 := (G4.out hc).1
    have hc2 := (G4.out hc).2
    have hc3 : ¬(0 < k % capF (1 + n % 16)) := by omega
    clear hc
    go_wp2_with (first | (go_at_call 13; refine (desk_cap hD _).mono ?_; clear hD; rintro e w2 ⟨rfl, hD⟩) | (go_at_call 15; refine (desk_bits hD _ _).mono ?_; clear hD; rintro e w2 ⟨rfl, hD⟩) | (go_at_call 14; refine (desk_scap hD _).mono ?_; clear hD; rintro e w2 ⟨rfl, hD⟩) | (go_at_call 16; refine (desk_sbits hD _ _).mono ?_; clear hD; rintro e w2 ⟨rfl, hD⟩) | (go_at_call 17; refine (desk_v hD _ _).mono ?_; clear hD; rintro e w2 ⟨rfl, hD⟩))
    go_ret
    exact ⟨rfl, hD.below⟩
  · have hc3 : 0 < k % capF (1 + n % 16) := by omega
    clear hc
    go_wp2_with (first | (go_at_call 13; refine (desk_cap hD _).mono ?_; clear hD; rintro e w2 ⟨rfl, hD⟩) | (go_at_call 15; refine (desk_bits hD _ _).mono ?_; clear hD; rintro e w2 ⟨rfl, hD⟩) | (go_at_call 14; refine (desk_scap hD _).mono ?_; clear hD; rintro e w2 ⟨rfl, hD⟩) | (go_at_call 16; refine (desk_sbits hD _ _).mono ?_; clear hD; rintro e w2 ⟨rfl, hD⟩) | (go_at_call 17; refine (desk_v hD _ _).mono ?_; clear hD; rintro e w2 ⟨rfl, hD⟩))
    go_ret
    exact ⟨rfl, hD.below⟩
end Go.Proofs.Ytmcjbejccelagaa
