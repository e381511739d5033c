/-
  What a sheet works out for one place.
-/
import Derived.Test.YtmcjbejccelagaaTabV
import Derived.Test.YtmcjbejccelagaaCostP
import Derived.Test.YtmcjbejccelagaaLen
namespace Go.Proofs.Ytmcjbejccelagaa
open Go.RowKit Go.BigFrame Go.Vec Go.Cost
set_option linter.unusedSimpArgs false

theorem work_small (s t : Nat) (w : World) (hT : TableOK t w) (n k : Int) (hn : 1 ≤ n ∧ n ≤ 8) (hk : 1 ≤ k ∧ k ≤ 32) :
    Calls Try.prog 19 #[.pointer (some ⟨s, 0, none⟩), .pointer (some ⟨t, 0, none⟩), .int .i64 n, .int .i64 k] w fun e w' => e = .returned (.int .i64 ((pays n.toNat k.toNat : Nat) : Int)) ∧ w = w' := by
  have HV := Lib.hid (tabV t w hT n k)
  have E := Lib.hid (pays_small n k hn hk)
  have hl := Lib.hid (fun w => len64_run (IntKind.u64.wrap (vF n k - 1)) w (by rw [IntKind.wrap_u64]; omega) (by rw [IntKind.wrap_u64]; omega))
  have hbd : (Lib.bitLen (IntKind.u64.wrap (vF n k - 1)).toNat : Int) ≤ 200 := by
    have := pays_le ⟨n.toNat, by omega⟩ ⟨k.toNat, by omega⟩
    have e := E.out
    simp only at this
    omega
  obtain ⟨n1, n2⟩ := hn
  obtain ⟨k1, k2⟩ := hk
  clear hT
  go_enter Try.func19, Try.ntmps19
  go_wp2_with (first | (go_at_call 18; refine HV.out.mono ?_; rintro e w' ⟨rfl, rfl⟩) | (go_at_call 24; refine (hl.out _).mono ?_; rintro e w' ⟨rfl, rfl⟩))
  go_ret
  exact ⟨ret_int (by rw [E.out]; omega), rfl⟩

theorem pays_100 (n k : Nat) (hn : n ≤ 16) (hk : k ≤ 32) : pays n k ≤ 200 := by
  have := pays_le ⟨n, by omega⟩ ⟨k, by omega⟩
  simpa using this

theorem work_wide (s t : Nat) (w : World) (n k : Nat) (hn : 9 ≤ n ∧ n ≤ 16) (hk : 1 ≤ k ∧ k ≤ 32) (hb : s < w.heap.size)
    (hS : ∀ i j, (i = n / 2 ∨ i = n - n / 2) → j ≤ k → w.cell? ⟨s, 17 + i * 33 + j, none⟩ = some (.int .i64 (pays i j : Nat))) :
    Calls Try.prog 19 #[.pointer (some ⟨s, 0, none⟩), .pointer (some ⟨t, 0, none⟩), .int .i64 n, .int .i64 k] w fun e w' => e = .returned (.int .i64 ((pays n k : Nat) : Int)) ∧ Below w.heap.size w w' := by
  have hl := Lib.hid (fun w => len_run (k : Int) w (by omega) (by omega))
  have hM := Lib.hid (fun (a : Nat) ha => mx_step n k a (by omega) ha (by omega))
  have hMb := Lib.hid (mx_le n k (by omega) (by omega))
  have E := Lib.hid (pays_wide n k (by omega) (by omega))
  have HS := Lib.hid hS
  have hlb : (Lib.bitLen k : Int) ≤ 200 := by
    have := pays_100 n k (by omega) (by omega)
    have e := E.out
    simp only [Int.toNat_natCast] at e
    omega
  have hM0 : mx n k 0 = 0 := rfl
  simp only [Int.toNat_natCast] at hM E
  generalize mx n k = M at *
  obtain ⟨n1, n2⟩ := hn
  obtain ⟨k1, k2⟩ := hk
  have n1' : ¬(n : Int) ≤ 8 := by omega
  clear hS
  go_enter Try.func19, Try.ntmps19
  go_wp2
  go_loopw [9, 22] (fun most cnt wr => ∃ a : Nat, a ≤ k + 1 ∧ cnt = .int .i64 a ∧ most = .int .i64 (M a : Nat) ∧ ∃ x, wr = w.grew x) (fun _ cnt _ => k + 1 - (intOf cnt).toNat)
  case atStart => exact ⟨0, by omega, rfl, by rw [hM0]; rfl, World.as_grew _⟩
  case round =>
    obtain ⟨a, ha, rfl, rfl, x, rfl⟩ := hrel
    by_cases hlt : a < k + 1
    · have hlt' : (a : Int) < (k : Int) + 1 := by omega
      have m1 := hMb.out a (by omega)
      have c1 := HS.out (n / 2) a (.inl rfl) (by omega)
      have c2 := HS.out (n - n / 2) (k - a) (.inr rfl) (by omega)
      have p1 := pays_100 (n / 2) a (by omega) (by omega)
      have p2 := pays_100 (n - n / 2) (k - a) (by omega) (by omega)
      have e : M (a + 1) = max (M a) (pays (n / 2) a + pays (n - n / 2) (k - a)) := by
        have e := hM.out a (by omega)
        rw [show ((n : Int) / 2).toNat = n / 2 by omega, show ((n : Int) - (n : Int) / 2).toNat = n - n / 2 by omega, show ((k : Int) - (a : Int)).toNat = k - a by omega] at e
        exact e
      go_wp2_with fail
      first | refine wp_region_grew_all2 (by kernel_rfl) (by kernel_rfl) ?_ | refine wp_region_grew_all (by kernel_rfl) (by kernel_rfl) ?_
      repeat (go_big_quiet_step (fail))
      refine wpQuiet_nil ?_
      rintro _ ⟨x, rfl⟩
      go_wp2
      go_roundw
      case rel => exact ⟨a + 1, by omega, by go_num, by rw [e]; congr 1; omega, _, rfl⟩
      case measure => simp [intOf]; omega
    · have hlt' : ¬(a : Int) < (k : Int) + 1 := by omega
      have m1 := hMb.out a (by omega)
      go_wp2_with (go_at_call 25; refine (hl.out _).mono ?_; rintro e w' ⟨rfl, rfl⟩)
      go_ret
      have hak : a = k + 1 := by omega
      exact ⟨ret_int (by rw [E.out, hak]), by (repeat' (first | (with_reducible exact Below.refl _ _) | (with_reducible assumption) | (with_reducible refine Below.alloc ?_ ?_ _) | (with_reducible refine below_grew ?_ ?_ _) | (with_reducible refine Below.setCell ?_ ?_ _) | (with_reducible refine Below.drew ?_) | (with_reducible refine below_drewN ?_ _) | omega | (simp; done) | (simp; omega)))⟩

theorem work_any (s t : Nat) (w : World) (hT : TableOK t w) (n k : Nat) (hn : 1 ≤ n ∧ n ≤ 16) (hk : 1 ≤ k ∧ k ≤ 32) (hb : s < w.heap.size)
    (hS : 9 ≤ n → ∀ i j, (i = n / 2 ∨ i = n - n / 2) → j ≤ k → w.cell? ⟨s, 17 + i * 33 + j, none⟩ = some (.int .i64 (pays i j : Nat))) :
    Calls Try.prog 19 #[.pointer (some ⟨s, 0, none⟩), .pointer (some ⟨t, 0, none⟩), .int .i64 n, .int .i64 k] w fun e w' => e = .returned (.int .i64 ((pays n k : Nat) : Int)) ∧ Below w.heap.size w w' := by
  by_cases h : n ≤ 8
  · refine (work_small s t w hT n k (by omega) (by omega)).mono fun e w' ⟨h1, h2⟩ => ⟨by simpa using h1, by subst h2; exact Below.refl _ _⟩
  · exact work_wide s t w n k (by omega) hk hb (hS (by omega))
end Go.Proofs.Ytmcjbejccelagaa
