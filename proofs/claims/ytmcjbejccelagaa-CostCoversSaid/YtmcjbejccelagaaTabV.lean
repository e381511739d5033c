/-
  V of a table.
-/
import Derived.Test.YtmcjbejccelagaaTab
namespace Go.Proofs.Ytmcjbejccelagaa
open Go.RowKit Go.BigFrame Go.Vec
set_option linter.unusedSimpArgs false

theorem tabV_in (b : Nat) (w : World) (hT : TableOK b w) (n k : Nat) (hn : n < 17) (hk : k < 33) : Calls Try.prog 18 #[.pointer (some ⟨b, 0, none⟩), .int .i64 n, .int .i64 k] w fun e w' => e = .returned (.int .u64 (vF n k)) ∧ w = w' := by
  obtain ⟨cs, hc, hS⟩ := hT
  have h1 := hS.done n k hn (by omega) (by unfold DO; omega)
  have h2 : w.cell? ⟨b, n * 67 + k, none⟩ = some (.int .u64 (tabG n k : Nat)) := by simp [World.cell?, hc, h1]
  have E := Lib.hid (show ((tabG n k : Nat) : Int) = vF n k from by unfold tabG vF; rw [if_pos hk, if_pos (by omega)]; simp)
  have i1 : ¬(n : Int) < 0 := by omega
  have i2 : (n : Int) ≤ 16 := by omega
  have i3 : ¬(k : Int) < 0 := by omega
  have i4 : (k : Int) ≤ 32 := by omega
  clear h1 hc hS
  go_enter Try.func18, Try.ntmps18
  go_wp2
  go_ret
  exact ⟨ret_int E.out, rfl⟩

theorem tabV (b : Nat) (w : World) (hT : TableOK b w) (n k : Int) : Calls Try.prog 18 #[.pointer (some ⟨b, 0, none⟩), .int .i64 n, .int .i64 k] w fun e w' => e = .returned (.int .u64 (vF n k)) ∧ w = w' := by
  by_cases h1 : 0 ≤ n
  · by_cases h2 : n ≤ 16
    · by_cases h3 : 0 ≤ k
      · by_cases h4 : k ≤ 32
        · obtain ⟨N, rfl⟩ := Int.eq_ofNat_of_zero_le h1
          obtain ⟨K, rfl⟩ := Int.eq_ofNat_of_zero_le h3
          exact tabV_in b w hT N K (by omega) (by omega)
        · have E := Lib.hid (vF_out n k (by omega))
          go_enter Try.func18, Try.ntmps18
          go_wp2
          go_ret
          exact ⟨ret_int E.out.symm, rfl⟩
      · have E := Lib.hid (vF_out n k (by omega))
        go_enter Try.func18, Try.ntmps18
        go_wp2
        go_ret
        exact ⟨ret_int E.out.symm, rfl⟩
    · have E := Lib.hid (vF_out n k (by omega))
      go_enter Try.func18, Try.ntmps18
      go_wp2
      go_ret
      exact ⟨ret_int E.out.symm, rfl⟩
  · have E := Lib.hid (vF_out n k (by omega))
    go_enter Try.func18, Try.ntmps18
    go_wp2
    go_ret
    exact ⟨ret_int E.out.symm, rfl⟩
end Go.Proofs.Ytmcjbejccelagaa
