/-
  The law CisWeights, walked: it answers true.
-/
import Derived.Test.YtmcjbejccelagaaDoorCisA
import Derived.Test.YtmcjbejccelagaaDoorEq
namespace Go.Proofs.YtmcjbejccelagaaDoor
open Go.RowKit Go.BigFrame
set_option linter.unusedSimpArgs false

theorem weightTo_mod (t : Nat) (ht : t ≤ 4) (n k : Int) (i : Nat) (hi : i ≤ t) : weightTo t (n % 2 ^ t) (k % 2 ^ t) i = weightTo t n k i := by
  induction i with
  | zero => rfl
  | succ i ih =>
    show wstep t _ _ i (weightTo t _ _ i) = wstep t n k i (weightTo t n k i)
    rw [ih (by omega)]
    unfold wstep wturn
    have e1 : n % 2 ^ t / 2 ^ i % 2 = n / 2 ^ i % 2 := by
      have : (t = 1 ∧ i = 0) ∨ (t = 2 ∧ i = 0) ∨ (t = 2 ∧ i = 1) ∨ (t = 3 ∧ i = 0) ∨ (t = 3 ∧ i = 1) ∨ (t = 3 ∧ i = 2) ∨ (t = 4 ∧ i = 0) ∨ (t = 4 ∧ i = 1) ∨ (t = 4 ∧ i = 2) ∨ (t = 4 ∧ i = 3) := by omega
      rcases this with ⟨rfl, rfl⟩ | ⟨rfl, rfl⟩ | ⟨rfl, rfl⟩ | ⟨rfl, rfl⟩ | ⟨rfl, rfl⟩ | ⟨rfl, rfl⟩ | ⟨rfl, rfl⟩ | ⟨rfl, rfl⟩ | ⟨rfl, rfl⟩ | ⟨rfl, rfl⟩ <;> simp <;> omega
    have e2 : k % 2 ^ t % 2 ^ (t - i) = k % 2 ^ (t - i) := by
      apply Int.emod_emod_of_dvd
      obtain ⟨d, hd⟩ : ∃ d, t = (t - i) + d := ⟨i, by omega⟩
      exact ⟨2 ^ d, by conv => lhs; rw [hd, Int.pow_add]⟩
    rw [e1, e2]

theorem weights_walk (s n k : Int) (w : World) (hT : CosW w) :
    Calls Tryd.prog 4 #[.int .i64 s, .int .i64 n, .int .i64 k] w fun e w' => e = .returned (.bool true) ∧ Below w.heap.size w w' := by
  have h1 := fun s n k w h => weight_any s n k w h
  have h2 := fun p w => lawPlain_any p w
  have h3 := fun s hs n k hn hk w => refWeight_any s hs n k hn hk w
  unfold pairAgg at h1 h2 h3
  have H1 := Lib.hid (fun w h => h1 s n k w h)
  have H2 := Lib.hid h2
  have H3 := Lib.hid h3
  have hA := Lib.hid awake20
  obtain ⟨t, ht, htc⟩ : ∃ t : Nat, t ≤ 4 ∧ clampS s = t := ⟨_, clampS_le s, rfl⟩
  have hm : min (max s 0) 4 = (t : Int) := by unfold clampS at htc; omega
  have hm1 := i64_mask t (by omega) n
  have hm2 := i64_mask t (by omega) k
  have hp : (1 : Int) ≤ 2 ^ t ∧ (2 : Int) ^ t ≤ 16 := by
    have : t = 0 ∨ t = 1 ∨ t = 2 ∨ t = 3 ∨ t = 4 := by omega
    rcases this with rfl | rfl | rfl | rfl | rfl <;> decide
  have b1 : 0 ≤ n % 2 ^ t ∧ n % 2 ^ t < 16 := ⟨Int.emod_nonneg _ (by omega), by have := Int.emod_lt_of_pos n (show (0 : Int) < 2 ^ t by omega); omega⟩
  have b2 : 0 ≤ k % 2 ^ t ∧ k % 2 ^ t < 16 := ⟨Int.emod_nonneg _ (by omega), by have := Int.emod_lt_of_pos k (show (0 : Int) < 2 ^ t by omega); omega⟩
  have F := Lib.hid (show weightF t (n % 2 ^ t) (k % 2 ^ t) = weightF (clampS s) n k from by rw [htc]; exact weightTo_mod t ht n k t (Nat.le_refl t))
  have R := Lib.hid (H3.out t ht (n % 2 ^ t) (k % 2 ^ t) b1 b2)
  rw [F.out] at R
  generalize hP : (2 : Int) ^ t = P at *
  obtain ⟨p1, p2⟩ := hp
  have z1 : wrap64 P = P := IntWalk.wrap64_in _ (by omega)
  have HB := Lib.hid (And.intro b1 b2)
  have t0 : (0 : Int) ≤ t := by omega
  clear h1 h2 h3 H3 F htc b1 b2
  generalize weightF (clampS s) n k = W at *
  have he := fun (a b c d : Int) w => eq_flat (P := Tryd.prog) 40 2 [.int .i64, .int .i64] (by kernel_rfl) (by decide) (by kernel_rfl) [.int .i64 a, .int .i64 b] [.int .i64 c, .int .i64 d] rfl rfl w
  go_enter Tryd.func4, Tryd.ntmps4
  go_wp2_with (go_at_call 18; refine (hA.out _ ?_).mono ?_; exact hT.below (by (repeat' (first | (with_reducible exact Below.refl _ _) | (with_reducible assumption) | (with_reducible refine Below.alloc ?_ ?_ _) | (with_reducible refine below_grew ?_ ?_ _) | (with_reducible refine Below.setCell ?_ ?_ _) | (with_reducible refine Below.drew ?_) | omega | (simp; done) | (simp; omega)))); rintro e w' ⟨rfl, hb1⟩; obtain ⟨x1, rfl⟩ := below_as_grew hb1; clear hb1)
  refine (H1.out _ ?_).mono ?_
  · exact hT.below (by (repeat' (first | (with_reducible exact Below.refl _ _) | (with_reducible assumption) | (with_reducible refine Below.alloc ?_ ?_ _) | (with_reducible refine below_grew ?_ ?_ _) | (with_reducible refine Below.setCell ?_ ?_ _) | (with_reducible refine Below.drew ?_) | omega | (simp; done) | (simp; omega))))
  rintro e w' ⟨rfl, hb1⟩; obtain ⟨x1, rfl⟩ := below_as_grew hb1; clear hb1
  go_wp2_with fail
  refine (H2.out W _).mono ?_
  rintro e w' ⟨rfl, hb1⟩; obtain ⟨x1, rfl⟩ := below_as_grew hb1; clear hb1
  go_wp2_with fail
  refine (R.out _).mono ?_
  rintro e w' ⟨rfl, hb1⟩; obtain ⟨x1, rfl⟩ := below_as_grew hb1; clear hb1
  go_wp2_with fail
  go_ret
  exact ⟨rfl, by (repeat' (first | (with_reducible exact Below.refl _ _) | (with_reducible assumption) | (with_reducible refine Below.alloc ?_ ?_ _) | (with_reducible refine below_grew ?_ ?_ _) | (with_reducible refine Below.setCell ?_ ?_ _) | (with_reducible refine Below.drew ?_) | omega | (simp; done) | (simp; omega)))⟩
end Go.Proofs.YtmcjbejccelagaaDoor
