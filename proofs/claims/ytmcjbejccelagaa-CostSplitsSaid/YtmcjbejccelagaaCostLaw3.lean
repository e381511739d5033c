/-
  The statements of layer 13, walked: how many, and how split.
-/
import Derived.Test.YtmcjbejccelagaaCostLaw2
namespace Go.Proofs.Ytmcjbejccelagaa
open Go.RowKit Go.BigFrame Go.Vec Go.Cost
set_option linter.unusedSimpArgs false
set_option linter.unusedVariables false

theorem covers_tab : ∀ a : Fin 8, ∀ c : Fin 32, 2 ≤ v (a.val + 1) (c.val + 1) ∧ pays (a.val + 1) (c.val + 1) < 62 ∧ 2 * v (a.val + 1) (c.val + 1) ≤ 2 ^ pays (a.val + 1) (c.val + 1) ∧ 2 ^ pays (a.val + 1) (c.val + 1) < 4 * v (a.val + 1) (c.val + 1) := by decide +kernel
theorem covers_facts (a c : Nat) (ha : 1 ≤ a ∧ a ≤ 8) (hc : 1 ≤ c ∧ c ≤ cap a) : 2 ≤ vF a c ∧ vF a c ≤ 100000000000000000 ∧ 0 ≤ bitsF a c ∧ bitsF a c < 62 ∧ (bitsF a c).toNat = pays a c ∧ 2 * vF a c ≤ 2 ^ (bitsF a c).toNat ∧ 2 ^ (bitsF a c).toNat < 4 * vF a c := by
  have hle := cap_le32 a (by omega)
  have ht := covers_tab ⟨a - 1, by omega⟩ ⟨c - 1, by omega⟩
  simp only [show a - 1 + 1 = a by omega, show c - 1 + 1 = c by omega] at ht
  have hv := v_le ⟨a, by omega⟩ ⟨c, by omega⟩
  simp only at hv
  rw [bitsF_nat a c (by omega) (by omega), vF_nat a c (by omega) (by omega), Int.toNat_natCast]
  have e : ((2 : Int) ^ pays a c) = ((2 ^ pays a c : Nat) : Int) := by simp
  rw [e]
  omega

theorem costCovers_walk (n k : Int) (hn : 0 ≤ n ∧ n ≤ 255) (hk : 0 ≤ k ∧ k ≤ 255) (w : World) : Calls Try.prog 5 #[.int .u8 n, .int .u8 k] w fun e w' => e = .returned (.bool true) ∧ Below w.heap.size w w' := by
  have ha := Lib.hid awake13
  have h0 := Lib.hid (desk_new w)
  obtain ⟨A, hA⟩ : ∃ A : Nat, 1 + n % 8 = A := ⟨(1 + n % 8).toNat, by omega⟩
  have hcap := capF_nat A (by omega)
  have hle := cap_le32 A (by omega)
  have hge := cap_pos ⟨A, by omega⟩
  simp only at hge
  have r1 : 0 ≤ k % capF (1 + n % 8) := Int.emod_nonneg _ (by rw [hA, hcap]; omega)
  have r2 : k % capF (1 + n % 8) < capF (1 + n % 8) := Int.emod_lt_of_pos _ (by rw [hA, hcap]; omega)
  have f1 : 1 ≤ capF (1 + n % 8) := by rw [hA, hcap]; omega
  have f2 : capF (1 + n % 8) ≤ 32 := by rw [hA, hcap]; omega
  obtain ⟨C, hC⟩ : ∃ C : Nat, 1 + k % capF (1 + n % 8) = C := ⟨(1 + k % capF (1 + n % 8)).toNat, by omega⟩
  have F := covers_facts A C (by omega) (by rw [hA, hcap] at r1 r2; rw [hA, hcap] at hC; omega)
  rw [← hC, ← hA] at F
  obtain ⟨v1, v2, b1, b2, bn, p1, p2⟩ := F
  obtain ⟨n1, n2⟩ := hn
  obtain ⟨k1, k2⟩ := hk
  have hm1 : max (capF (1 + n % 8)) 1 = capF (1 + n % 8) := by omega
  have hm2 : max (bitsF (1 + n % 8) (1 + k % capF (1 + n % 8))) 0 = bitsF (1 + n % 8) (1 + k % capF (1 + n % 8)) := by omega
  have hp : IntKind.u64.wrap (2 ^ (bitsF (1 + n % 8) (1 + k % capF (1 + n % 8))).toNat) = 2 ^ (bitsF (1 + n % 8) (1 + k % capF (1 + n % 8))).toNat := IntWalk.u64_in _ (by omega)
  rw [← hp] at p1 p2
  clear hp
  clear hA hC hcap hge hle bn
  go_enter Try.func5, Try.ntmps5
  go_wp2_with fail
  refine (ha.out _).mono ?_
  rintro e w1 ⟨rfl, hb1⟩
  go_wp2_with fail
  refine (h0.out _ hb1).mono ?_
  clear hb1
  rintro e w1 ⟨b, m, rfl, hD⟩
  go_wp2_with (first | (go_at_call 13; refine (desk_cap hD _).mono ?_; clear hD; rintro e w2 ⟨rfl, hD⟩) | (go_at_call 15; refine (desk_bits hD _ _).mono ?_; clear hD; rintro e w2 ⟨rfl, hD⟩) | (go_at_call 17; refine (desk_v hD _ _).mono ?_; clear hD; rintro e w2 ⟨rfl, hD⟩))
  go_ret
  exact ⟨rfl, hD.below⟩

theorem len_half : ∀ z : Fin 33, 0 < z.val → Lib.bitLen z.val = Lib.bitLen (z.val / 2) + 1 := by decide +kernel
theorem mx_ge (n k i : Nat) : ∀ a, i < a → bitsS (n / 2) i + bitsS (n - n / 2) (k - i) ≤ mx n k a
  | 0, h => by omega
  | a + 1, h => by
    simp only [mx]
    by_cases e : i = a
    · subst e; omega
    · have := mx_ge n k i a (by omega)
      omega
theorem splits_facts (a c i : Nat) (ha : 9 ≤ a ∧ a ≤ 16) (hc : 1 ≤ c ∧ c ≤ cap a) (hi : i ≤ c) :
    0 ≤ bitsF (a / 2 : Nat) i ∧ bitsF (a / 2 : Nat) i ≤ 200 ∧ 0 ≤ bitsF (a - a / 2 : Nat) (c - i : Nat) ∧ bitsF (a - a / 2 : Nat) (c - i : Nat) ≤ 200 ∧ Lib.bitLen c ≤ 200 ∧ bitsF a c ≤ 200 ∧ bitsF (a / 2 : Nat) i + bitsF (a - a / 2 : Nat) (c - i : Nat) + (Lib.bitLen c : Nat) < bitsF a c := by
  have hh := cap_half ⟨a - 9, by omega⟩
  simp only [show a - 9 + 9 = a by omega] at hh
  have hle := cap_le32 a (by omega)
  rw [bitsF_nat (a / 2) i (by omega) (by omega), bitsF_nat (a - a / 2) (c - i) (by omega) (by omega), bitsF_nat a c (by omega) (by omega)]
  have b1 := pays_100 (a / 2) i (by omega) (by omega)
  have b2 := pays_100 (a - a / 2) (c - i) (by omega) (by omega)
  have b3 := pays_100 a c (by omega) (by omega)
  have hw := pays_wide a c (by omega) (by omega)
  have hm := mx_ge a c i (c + 1) (by omega)
  rw [← pays_eqS _ _ (by omega), ← pays_eqS _ _ (by omega)] at hm
  simp only [Int.toNat_natCast] at hw
  omega

theorem costSplits_walk (n k at' : Int) (hn : 0 ≤ n ∧ n ≤ 255) (hk : 0 ≤ k ∧ k ≤ 255) (hat : 0 ≤ at' ∧ at' ≤ 255) (w : World) : Calls Try.prog 6 #[.int .u8 n, .int .u8 k, .int .u8 at'] w fun e w' => e = .returned (.bool true) ∧ Below w.heap.size w w' := by
  have ha := Lib.hid awake13
  have h0 := Lib.hid (desk_new w)
  obtain ⟨A, hA⟩ : ∃ A : Nat, 9 + n % 8 = A := ⟨(9 + n % 8).toNat, by omega⟩
  have hcap := capF_nat A (by omega)
  have hle := cap_le32 A (by omega)
  have hge := cap_pos ⟨A, by omega⟩
  simp only at hge
  have r1 : 0 ≤ k % capF (9 + n % 8) := Int.emod_nonneg _ (by rw [hA, hcap]; omega)
  have r2 : k % capF (9 + n % 8) < capF (9 + n % 8) := Int.emod_lt_of_pos _ (by rw [hA, hcap]; omega)
  have f1 : 1 ≤ capF (9 + n % 8) := by rw [hA, hcap]; omega
  have f2 : capF (9 + n % 8) ≤ 32 := by rw [hA, hcap]; omega
  obtain ⟨C, hC⟩ : ∃ C : Nat, 1 + k % capF (9 + n % 8) = C := ⟨(1 + k % capF (9 + n % 8)).toNat, by omega⟩
  have r3 : 0 ≤ at' % ((C : Int) + 1) := Int.emod_nonneg _ (by omega)
  have r4 : at' % ((C : Int) + 1) < (C : Int) + 1 := Int.emod_lt_of_pos _ (by omega)
  obtain ⟨I, hI⟩ : ∃ I : Nat, at' % ((C : Int) + 1) = I := ⟨(at' % ((C : Int) + 1)).toNat, by omega⟩
  have F := splits_facts A C I (by omega) (by rw [hA, hcap] at r1 r2; rw [hA, hcap] at hC; omega) (by omega)
  rw [show ((A / 2 : Nat) : Int) = (9 + n % 8) / 2 by omega, show ((A - A / 2 : Nat) : Int) = (9 + n % 8) - (9 + n % 8) / 2 by omega, show ((C - I : Nat) : Int) = (C : Int) - at' % ((C : Int) + 1) by omega, ← hA, ← hI] at F
  obtain ⟨x1, x2, y1, y2, l2, z2, lt⟩ := F
  have hC32 : C ≤ 32 := by omega
  obtain ⟨n1, n2⟩ := hn
  obtain ⟨k1, k2⟩ := hk
  obtain ⟨t1, t2⟩ := hat
  clear hA hcap hge hle hI
  go_enter Try.func6, Try.ntmps6
  go_wp2_with fail
  refine (ha.out _).mono ?_
  rintro e w1 ⟨rfl, hb1⟩
  go_wp2_with fail
  refine (h0.out _ hb1).mono ?_
  clear hb1
  rintro e w1 ⟨b, m, rfl, hD⟩
  go_wp2_with (first | (go_at_call 13; refine (desk_cap hD _).mono ?_; clear hD; rintro e w2 ⟨rfl, hD⟩) | (go_at_call 15; refine (desk_bits hD _ _).mono ?_; clear hD; rintro e w2 ⟨rfl, hD⟩) | (go_at_call 17; refine (desk_v hD _ _).mono ?_; clear hD; rintro e w2 ⟨rfl, hD⟩))
  go_loopw [14, 15] (fun bb zz wr => ∃ z j : Nat, z ≤ 32 ∧ j + Lib.bitLen z = Lib.bitLen C ∧ bb = .int .i64 j ∧ zz = .int .i64 z ∧ wr = w2) (fun _ zz _ => (intOf zz).toNat)
  case atStart => exact ⟨C, 0, hC32, by omega, rfl, rfl, rfl⟩
  case round =>
    obtain ⟨z, j, hz, hj, rfl, rfl, rfl⟩ := hrel
    by_cases hz0 : 0 < z
    · have hz0' : (0 : Int) < z := by omega
      have hl := len_half ⟨z, by omega⟩ hz0
      simp only at hl
      have hjb : (j : Int) ≤ 200 := by omega
      go_wp2_with fail
      go_roundw
      case rel => exact ⟨z / 2, j + 1, by omega, by omega, by go_num, by go_num, trivial⟩
      case measure => simp [intOf]; omega
    · have hz0' : ¬(0 : Int) < z := by omega
      have hjl : j = Lib.bitLen C := by
        have h0 : z = 0 := by omega
        rw [h0] at hj
        have : Lib.bitLen 0 = 0 := by decide
        omega
      rw [← hjl] at lt
      clear hj hjl
      go_wp2_with (first | (go_at_call 15; refine (desk_bits hD _ _).mono ?_; clear hD; rintro e w2 ⟨rfl, hD⟩))
      go_ret
      exact ⟨rfl, hD.below⟩
end Go.Proofs.Ytmcjbejccelagaa
