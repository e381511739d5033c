/-
  What a sheet tells.
-/
import Derived.Test.YtmcjbejccelagaaSheet
import Derived.Test.YtmcjbejccelagaaCostB
namespace Go.Proofs.Ytmcjbejccelagaa
open Go.RowKit Go.BigFrame Go.Vec Go.Cost
set_option linter.unusedSimpArgs false

theorem SheetOK.cap_cell {b : Nat} {w : World} (h : SheetOK b w) (n : Nat) (hn : 1 ≤ n ∧ n ≤ 16) : w.cell? ⟨b, n, none⟩ = some (.int .i64 (cap n : Nat)) := by
  obtain ⟨cs, h1, h2⟩ := h
  have := h2.cap_done n (by omega) (by unfold ShC; omega)
  unfold capG at this
  rw [if_neg (by omega)] at this
  simp [World.cell?, h1, this]
theorem SheetOK.bits_cell {b : Nat} {w : World} (h : SheetOK b w) (n k : Nat) (hn : 1 ≤ n ∧ n ≤ 16) (hk : k ≤ cap n) : w.cell? ⟨b, 17 + n * 33 + k, none⟩ = some (.int .i64 (pays n k : Nat)) := by
  obtain ⟨cs, h1, h2⟩ := h
  have hc := cap_le32 n (by omega)
  have := h2.bits_done n k (by omega) (by omega) (by unfold ShB; omega)
  simp [World.cell?, h1, this]

theorem sheetCap_in (s : Nat) (w : World) (hS : SheetOK s w) (n : Nat) (hn : 1 ≤ n ∧ n ≤ 16) : Calls Try.prog 14 #[.pointer (some ⟨s, 0, none⟩), .int .i64 n] w fun e w' => e = .returned (.int .i64 (cap n : Nat)) ∧ w = w' := by
  have ht := Lib.hid (fun w => there_any n w)
  rw [decide_eq_true (by omega)] at ht
  have c1 := hS.cap_cell n hn
  have i1 : (n : Int) < 17 := by omega
  clear hS
  go_enter Try.func14, Try.ntmps14
  go_wp2_with (go_at_call 21; refine (ht.out _).mono ?_; rintro e w' ⟨rfl, rfl⟩)
  go_ret
  exact ⟨rfl, rfl⟩

theorem sheetCap (s : Nat) (w : World) (hS : SheetOK s w) (n : Int) : Calls Try.prog 14 #[.pointer (some ⟨s, 0, none⟩), .int .i64 n] w fun e w' => e = .returned (.int .i64 (capF n)) ∧ w = w' := by
  by_cases hn : 1 ≤ n ∧ n ≤ 16
  · obtain ⟨N, rfl⟩ := Int.eq_ofNat_of_zero_le (show 0 ≤ n by omega)
    rw [capF_in _ hn]
    exact sheetCap_in s w hS N (by omega)
  · rw [capF_out n hn]
    have ht := Lib.hid (fun w => there_any n w)
    rw [decide_eq_false hn] at ht
    clear hS hn
    go_enter Try.func14, Try.ntmps14
    go_wp2_with (go_at_call 21; refine (ht.out _).mono ?_; rintro e w' ⟨rfl, rfl⟩)
    go_ret
    exact ⟨rfl, rfl⟩

theorem sheetBits_in (s : Nat) (w : World) (hS : SheetOK s w) (n k : Nat) (hn : 1 ≤ n ∧ n ≤ 16) (hk : k ≤ cap n) : Calls Try.prog 16 #[.pointer (some ⟨s, 0, none⟩), .int .i64 n, .int .i64 k] w fun e w' => e = .returned (.int .i64 (pays n k : Nat)) ∧ w = w' := by
  have ht := Lib.hid (sheetCap_in s w hS n hn)
  have c1 := hS.bits_cell n k hn hk
  have c32 := cap_le32 n (by omega)
  have i1 : (n : Int) < 17 := by omega
  have i2 : (k : Int) < 33 := by omega
  have i3 : ¬(cap n : Int) < k := by omega
  clear hS
  go_enter Try.func16, Try.ntmps16
  go_wp2_with (go_at_call 14; refine ht.out.mono ?_; rintro e w' ⟨rfl, rfl⟩)
  go_ret
  exact ⟨rfl, rfl⟩

theorem sheetBits (s : Nat) (w : World) (hS : SheetOK s w) (n k : Int) : Calls Try.prog 16 #[.pointer (some ⟨s, 0, none⟩), .int .i64 n, .int .i64 k] w fun e w' => e = .returned (.int .i64 (bitsF n k)) ∧ w = w' := by
  by_cases h0 : 0 ≤ k
  · by_cases h1 : k ≤ capF n
    · have hp := capF_pos n k h0 h1
      obtain ⟨N, rfl⟩ := Int.eq_ofNat_of_zero_le (show 0 ≤ n by omega)
      obtain ⟨K, rfl⟩ := Int.eq_ofNat_of_zero_le h0
      rw [show bitsF N K = (pays N K : Nat) from by unfold bitsF; rw [if_pos ⟨h0, h1⟩]; simp]
      rw [capF_in _ (by omega)] at h1
      exact sheetBits_in s w hS N K (by omega) (by simpa using h1)
    · have E := Lib.hid (show bitsF n k = -1 from by unfold bitsF; rw [if_neg (by omega)])
      have ht := Lib.hid (sheetCap s w hS n)
      clear hS
      go_enter Try.func16, Try.ntmps16
      go_wp2_with (go_at_call 14; refine ht.out.mono ?_; rintro e w' ⟨rfl, rfl⟩)
      go_ret
      exact ⟨ret_int E.out.symm, rfl⟩
  · have E := Lib.hid (show bitsF n k = -1 from by unfold bitsF; rw [if_neg (by omega)])
    clear hS
    go_enter Try.func16, Try.ntmps16
    go_wp2
    go_ret
    exact ⟨ret_int E.out.symm, rfl⟩
end Go.Proofs.Ytmcjbejccelagaa
