/-
  What vectors cost, by a book.
-/
import Derived.Test.YtmcjbejccelagaaDoorBookV
import Derived.Test.YtmcjbejccelagaaDoorCostP
import Derived.Test.YtmcjbejccelagaaDoorLen
namespace Go.Proofs.YtmcjbejccelagaaDoor
open Go.RowKit Go.BigFrame Go.Vec Go.Cost
set_option linter.unusedSimpArgs false

theorem there_any (n : Int) (w : World) : Calls Tryd.prog 91 #[.int .i64 n] w fun e w' => e = .returned (.bool (decide (1 ≤ n ∧ n ≤ 16))) ∧ w = w' := by
  by_cases h1 : 1 ≤ n
  · by_cases h2 : n ≤ 16
    · skip
      go_enter Tryd.func91, Tryd.ntmps91
      go_wp2
      go_ret
      exact ⟨ret_bool (by first | rfl | (simp; done) | (simp; omega)), rfl⟩
    · skip
      go_enter Tryd.func91, Tryd.ntmps91
      go_wp2
      go_ret
      exact ⟨ret_bool (by first | rfl | (simp; done) | (simp; omega)), rfl⟩
  · skip
    go_enter Tryd.func91, Tryd.ntmps91
    go_wp2
    go_ret
    exact ⟨ret_bool (by first | rfl | (simp; done) | (simp; omega)), rfl⟩

section
variable {b m : Nat} {w : World}
/-- What is known behind each change of the map. -/
theorem Book.any (hB : Book b m w) (x : BookBy) : Book b m (w.bkd m x) := hB.inv (hB.refl.bkd x)

theorem bookV_any (hB : Book b m w) (n k : Int) (x : BookBy) : Calls Tryd.prog 92 #[.pointer (some ⟨b, 0, none⟩), .int .i64 n, .int .i64 k] (w.bkd m x) fun e w' => e = .returned (.int .u64 (vF n k)) ∧ ∃ y, w' = w.bkd m y :=
  (bookV b m n k _ (hB.any x)).bkd_of hB.lt_m

def BkCalls (m : Nat) (w : World) (f : FuncId) (args : Array Value) (v : Value) : Prop := ∀ x, Calls Tryd.prog f args (w.bkd m x) fun e w' => e = .returned v ∧ ∃ y, w' = w.bkd m y

theorem cap_out (p : Value) (n : Int) (hn : ¬(1 ≤ n ∧ n ≤ 16)) : BkCalls m w 83 #[p, .int .i64 n] (.int .i64 (capF n)) := by
  intro x
  have ht := Lib.hid (fun w => there_any n w)
  have E := Lib.hid (capF_out n hn)
  rw [decide_eq_false hn] at ht
  clear hn
  go_enter Tryd.func83, Tryd.ntmps83
  go_wp2_with (go_at_call 91; refine (ht.out _).mono ?_; rintro e w' ⟨rfl, rfl⟩)
  go_ret
  exact ⟨ret_int E.out.symm, _, rfl⟩

theorem cap_small (hB : Book b m w) (n : Int) (hn : 1 ≤ n ∧ n ≤ 8) : BkCalls m w 83 #[.pointer (some ⟨b, 0, none⟩), .int .i64 n] (.int .i64 (capF n)) := by
  intro x
  have ht := Lib.hid (fun w => there_any n w)
  have HV := Lib.hid (fun k x => bookV_any hB n k x)
  have E := Lib.hid (capF_in n (by omega))
  have HS := Lib.hid (fun k => cap_step n k hn)
  have c32 := cap_32 n hn
  rw [decide_eq_true (by omega)] at ht
  obtain ⟨n1, n2⟩ := hn
  generalize hc : cap n.toNat = c at *
  go_enter Tryd.func83, Tryd.ntmps83
  go_wp2_with (go_at_call 91; refine (ht.out _).mono ?_; rintro e w' ⟨rfl, rfl⟩)
  go_loopw [5] (fun cnt wr => ∃ k : Nat, k ≤ c ∧ cnt = .int .i64 k ∧ ∃ x, wr = w.bkd m x) (fun cnt _ => c + 1 - (intOf cnt).toNat)
  case atStart => exact ⟨0, by omega, rfl, _, rfl⟩
  case round =>
    obtain ⟨k, hk, rfl, y, rfl⟩ := hrel
    by_cases h32 : k < 32
    · have h32' : (k : Int) < 32 := by omega
      have HK := HS.out k h32 hk
      by_cases hlt : k < c
      · rw [decide_eq_true hlt] at HK
        have HK2 := of_decide_eq_true HK
        go_wp2_with (go_at_call 92; refine (HV.out _ _).mono ?_; rintro e w' ⟨rfl, y1, rfl⟩)
        go_roundw
        case rel => exact ⟨k + 1, by omega, by go_num, _, rfl⟩
        case measure => simp [intOf]; omega
      · rw [decide_eq_false hlt] at HK
        have HK2 := of_decide_eq_false HK
        go_wp2_with (go_at_call 92; refine (HV.out _ _).mono ?_; rintro e w' ⟨rfl, y1, rfl⟩)
        go_ret
        exact ⟨ret_int (by rw [E.out]; omega), _, rfl⟩
    · have h32' : ¬(k : Int) < 32 := by omega
      go_wp2
      go_ret
      exact ⟨ret_int (by rw [E.out]; omega), _, rfl⟩

theorem cap_wide_any (hB : Book b m w) (n : Int) (hn : 9 ≤ n ∧ n ≤ 16) : BkCalls m w 83 #[.pointer (some ⟨b, 0, none⟩), .int .i64 n] (.int .i64 (capF n)) := by
  intro x
  have ht := Lib.hid (fun w => there_any n w)
  have h1 := Lib.hid (cap_small hB)
  have E := Lib.hid (cap_wide n hn)
  have b1 := capF_bd (n / 2)
  have b2 := capF_bd (n - n / 2)
  rw [decide_eq_true (by omega)] at ht
  obtain ⟨n1, n2⟩ := hn
  go_enter Tryd.func83, Tryd.ntmps83
  go_wp2_with (first | (go_at_call 91; refine (ht.out _).mono ?_; rintro e w' ⟨rfl, rfl⟩) | (go_at_call 83; refine (h1.out _ ?_ _).mono ?_; omega; rintro e w' ⟨rfl, y, rfl⟩))
  go_ret
  exact ⟨ret_int (by rw [E.out]), _, rfl⟩

theorem cap_any (hB : Book b m w) (n : Int) : BkCalls m w 83 #[.pointer (some ⟨b, 0, none⟩), .int .i64 n] (.int .i64 (capF n)) := by
  by_cases h : 1 ≤ n ∧ n ≤ 16
  · by_cases h2 : n ≤ 8
    · exact cap_small hB n (by omega)
    · exact cap_wide_any hB n (by omega)
  · exact cap_out _ n h

theorem bitsOf_zero (p : Value) (n : Int) : BkCalls m w 86 #[p, .int .i64 n, .int .i64 0] (.int .i64 ((pays n.toNat 0 : Nat) : Int)) := by
  intro x
  go_enter Tryd.func86, Tryd.ntmps86
  go_wp2
  go_ret
  exact ⟨ret_int rfl, _, rfl⟩

theorem bitsOf_small (hB : Book b m w) (n k : Int) (hn : 1 ≤ n ∧ n ≤ 8) (hk : 1 ≤ k ∧ k ≤ 32) : BkCalls m w 86 #[.pointer (some ⟨b, 0, none⟩), .int .i64 n, .int .i64 k] (.int .i64 ((pays n.toNat k.toNat : Nat) : Int)) := by
  intro x
  have HV := Lib.hid (fun x => bookV_any hB n k x)
  have E := Lib.hid (pays_small n k hn hk)
  have hl := Lib.hid (fun w => len64_run (IntKind.u64.wrap (vF n k - 1)) w (by rw [IntKind.wrap_u64]; omega) (by rw [IntKind.wrap_u64]; omega))
  have hk0 : (k == 0) = false := by rw [beq_eq_false_iff_ne]; omega
  have hbd : (Lib.bitLen (IntKind.u64.wrap (vF n k - 1)).toNat : Int) ≤ 200 := by
    have := pays_le ⟨n.toNat, by omega⟩ ⟨k.toNat, by omega⟩
    have e := E.out
    simp only at this
    omega
  obtain ⟨n1, n2⟩ := hn
  obtain ⟨k1, k2⟩ := hk
  go_enter Tryd.func86, Tryd.ntmps86
  go_wp2_with (first | (go_at_call 92; refine (HV.out _).mono ?_; rintro e w' ⟨rfl, y, rfl⟩) | (go_at_call 79; refine (hl.out _).mono ?_; rintro e w' ⟨rfl, rfl⟩))
  go_ret
  exact ⟨ret_int (by rw [E.out]; omega), _, rfl⟩

theorem bitsOf_low (hB : Book b m w) (n k : Int) (hn : 1 ≤ n ∧ n ≤ 8) (hk : 0 ≤ k ∧ k ≤ 32) : BkCalls m w 86 #[.pointer (some ⟨b, 0, none⟩), .int .i64 n, .int .i64 k] (.int .i64 ((pays n.toNat k.toNat : Nat) : Int)) := by
  by_cases h : k = 0
  · subst h; exact bitsOf_zero _ n
  · exact bitsOf_small hB n k hn (by omega)

theorem bitsOf_wide (hB : Book b m w) (n k : Int) (hn : 9 ≤ n ∧ n ≤ 16) (hk : 1 ≤ k ∧ k ≤ 32) : BkCalls m w 86 #[.pointer (some ⟨b, 0, none⟩), .int .i64 n, .int .i64 k] (.int .i64 ((pays n.toNat k.toNat : Nat) : Int)) := by
  intro x
  have h1 := Lib.hid (bitsOf_low hB)
  have hl := Lib.hid (fun w => len_run k w (by omega) (by omega))
  have hk0 : (k == 0) = false := by rw [beq_eq_false_iff_ne]; omega
  have hM := Lib.hid (fun a ha => mx_step n k a hn ha (by omega))
  have hMb := Lib.hid (mx_le n.toNat k.toNat (by omega) (by omega))
  have hB1 := Lib.hid (fun (a : Nat) (ha : a ≤ 32) => pays_le ⟨(n / 2).toNat, by omega⟩ ⟨a, by omega⟩)
  have hB2 := Lib.hid (fun (a : Nat) (ha : a ≤ 32) => pays_le ⟨(n - n / 2).toNat, by omega⟩ ⟨a, by omega⟩)
  have E := Lib.hid (pays_wide n k hn hk)
  have hlb : (Lib.bitLen k.toNat : Int) ≤ 200 := by
    have := pays_le ⟨n.toNat, by omega⟩ ⟨k.toNat, by omega⟩
    have e := E.out
    simp only at this
    omega
  have hM0 : mx n.toNat k.toNat 0 = 0 := rfl
  generalize mx n.toNat k.toNat = M at *
  obtain ⟨n1, n2⟩ := hn
  obtain ⟨k1, k2⟩ := hk
  go_enter Tryd.func86, Tryd.ntmps86
  go_wp2
  go_loopw [7, 24] (fun most cnt wr => ∃ a : Nat, a ≤ k.toNat + 1 ∧ cnt = .int .i64 a ∧ most = .int .i64 (M a : Nat) ∧ ∃ x, wr = w.bkd m x) (fun _ cnt _ => k.toNat + 1 - (intOf cnt).toNat)
  case atStart => exact ⟨0, by omega, rfl, by rw [hM0]; rfl, _, rfl⟩
  case round =>
    obtain ⟨a, ha, rfl, rfl, y, rfl⟩ := hrel
    by_cases hlt : a < k.toNat + 1
    · have hlt' : (a : Int) < k + 1 := by omega
      have m1 := hMb.out a (by omega)
      have p1 := hB1.out a (by omega)
      have p2 := hB2.out (k - a).toNat (by omega)
      have e : M (a + 1) = max (M a) (pays (n / 2).toNat a + pays (n - n / 2).toNat (k.toNat - a)) := by rw [show k.toNat - a = (k - a).toNat by omega]; exact hM.out a (by omega)
      have ha0 : (0 : Int) ≤ a := by omega
      have P1 : ((pays (n / 2).toNat a : Nat) : Int) ≤ 200 := by omega
      have P2 : ((pays (n - n / 2).toNat (k.toNat - a) : Nat) : Int) ≤ 200 := by rw [show k.toNat - a = (k - a).toNat by omega]; omega
      clear p1 p2
      go_wp2_with (go_at_call 86; refine (h1.out _ _ ?_ ?_ _).mono ?_; omega; omega; rintro e w' ⟨rfl, z, rfl⟩)
      go_roundw
      case rel => exact ⟨a + 1, by omega, by go_num, by go_num, _, rfl⟩
      case measure => simp [intOf]; omega
    · have hlt' : ¬(a : Int) < k + 1 := by omega
      have m1 := hMb.out a (by omega)
      go_wp2_with (go_at_call 59; refine (hl.out _).mono ?_; rintro e w' ⟨rfl, rfl⟩)
      go_ret
      have hak : a = k.toNat + 1 := by omega
      exact ⟨ret_int (by rw [E.out, hak]), _, rfl⟩

theorem bitsOf_any (hB : Book b m w) (n k : Int) (hn : 1 ≤ n ∧ n ≤ 16) (hk : 0 ≤ k ∧ k ≤ 32) : BkCalls m w 86 #[.pointer (some ⟨b, 0, none⟩), .int .i64 n, .int .i64 k] (.int .i64 ((pays n.toNat k.toNat : Nat) : Int)) := by
  by_cases h : n ≤ 8
  · exact bitsOf_low hB n k (by omega) hk
  · by_cases h0 : k = 0
    · subst h0; exact bitsOf_zero _ n
    · exact bitsOf_wide hB n k (by omega) (by omega)

theorem bits_any (hB : Book b m w) (n k : Int) : BkCalls m w 66 #[.pointer (some ⟨b, 0, none⟩), .int .i64 n, .int .i64 k] (.int .i64 (bitsF n k)) := by
  intro x
  have hc := Lib.hid (cap_any hB n)
  have hb := Lib.hid (bitsOf_any hB n k)
  by_cases h0 : 0 ≤ k
  · by_cases h1 : k ≤ capF n
    · have hp := capF_pos n k h0 h1
      have E := Lib.hid (show bitsF n k = (pays n.toNat k.toNat : Nat) from by unfold bitsF; rw [if_pos ⟨h0, h1⟩])
      go_enter Tryd.func66, Tryd.ntmps66
      go_wp2_with (first | (go_at_call 83; refine (hc.out _).mono ?_; rintro e w' ⟨rfl, y, rfl⟩) | (go_at_call 86; refine (hb.out ?_ ?_ _).mono ?_; omega; omega; rintro e w' ⟨rfl, y, rfl⟩))
      go_ret
      exact ⟨ret_int E.out.symm, _, rfl⟩
    · have E := Lib.hid (show bitsF n k = -1 from by unfold bitsF; rw [if_neg (by omega)])
      go_enter Tryd.func66, Tryd.ntmps66
      go_wp2_with (go_at_call 83; refine (hc.out _).mono ?_; rintro e w' ⟨rfl, y, rfl⟩)
      go_ret
      exact ⟨ret_int E.out.symm, _, rfl⟩
  · have E := Lib.hid (show bitsF n k = -1 from by unfold bitsF; rw [if_neg (by omega)])
    go_enter Tryd.func66, Tryd.ntmps66
    go_wp2
    go_ret
    exact ⟨ret_int E.out.symm, _, rfl⟩
end
end Go.Proofs.YtmcjbejccelagaaDoor
