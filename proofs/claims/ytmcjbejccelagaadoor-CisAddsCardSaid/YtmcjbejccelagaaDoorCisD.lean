/-
  The direct sum (package cis).
-/
import Derived.Test.YtmcjbejccelagaaDoorCisW
namespace Go.Proofs.YtmcjbejccelagaaDoor
open Go.RowKit Go.BigFrame
set_option linter.unusedSimpArgs false

/-- A list of pairs that lies in memory. -/
def PairsAt (w : World) (v : Value) (l : List (Int × Int)) : Prop :=
  (l = [] ∧ ∃ a c, v = .slice a 0 c) ∨ ∃ b off c, v = .slice (some ⟨b, off, none⟩) l.length c ∧ b < w.heap.size ∧
    ∀ j, j < l.length → w.cell? ⟨b, off + j * 2, none⟩ = some (.int .i64 (l.getD j (0, 0)).1) ∧ w.cell? ⟨b, off + j * 2 + 1, none⟩ = some (.int .i64 (l.getD j (0, 0)).2)
theorem PairsAt.below {w w' : World} {v : Value} {l : List (Int × Int)} (h : PairsAt w v l) (hb : Below w.heap.size w w') : PairsAt w' v l := by
  rcases h with h | ⟨b, off, c, hv, hlt, hc⟩
  · exact .inl h
  · exact .inr ⟨b, off, c, hv, Nat.lt_of_lt_of_le hlt hb.size, fun j hj => ⟨(hb.cell (p := ⟨b, _, none⟩) hlt).trans (hc j hj).1, (hb.cell (p := ⟨b, _, none⟩) hlt).trans (hc j hj).2⟩⟩

/-- One summand. -/
def term (s : Nat) (l : List (Int × Int)) (k n : Nat) : Int × Int := wmul (l.getD n (0, 0)) (weightF s n k)
def sumTo (s : Nat) (l : List (Int × Int)) (k : Nat) : Nat → Int × Int
  | 0 => (0, 0)
  | n + 1 => ((sumTo s l k n).1 + (term s l k n).1, (sumTo s l k n).2 + (term s l k n).2)
def bigCells (p : Int × Int) : List Value := [.int .i64 (accHi p.1), .int .u64 (accLo p.1), .int .i64 (accHi p.2), .int .u64 (accLo p.2)]
/-- The sums of a list of 2^s pairs. -/
def directF (s : Nat) (l : List (Int × Int)) : List (Int × Int) := (List.range l.length).map fun k => sumTo s l k l.length

theorem len_pow (s : Nat) (hs : s ≤ 4) : Lib.bitLen (2 ^ s) = s + 1 := by
  have : s = 0 ∨ s = 1 ∨ s = 2 ∨ s = 3 ∨ s = 4 := by omega
  rcases this with rfl | rfl | rfl | rfl | rfl <;> decide
theorem pow_wrap (s : Nat) (hs : s ≤ 4) : wrap64 (2 ^ s) = ((2 ^ s : Nat) : Int) := by
  have : s = 0 ∨ s = 1 ∨ s = 2 ∨ s = 3 ∨ s = 4 := by omega
  rcases this with rfl | rfl | rfl | rfl | rfl <;> (unfold wrap64; decide)
theorem clampS_nat (s : Nat) (hs : s ≤ 4) : clampS s = s := by unfold clampS; omega
theorem clampS_le (s : Int) : clampS s ≤ 4 := by unfold clampS; omega
theorem weightF_small (s : Nat) (hs : s ≤ 4) (n k : Int) : small 4503599627370496 (weightF s n k) := by
  have h1 := weightTo_small s n k s
  have h2 : (8192 : Int) ^ s ≤ 4503599627370496 := by
    have : s = 0 ∨ s = 1 ∨ s = 2 ∨ s = 3 ∨ s = 4 := by omega
    rcases this with rfl | rfl | rfl | rfl | rfl <;> decide
  unfold weightF small at *
  omega
theorem weight_in64 (s n k : Int) : In64 (weightF (clampS s) n k).1 ∧ In64 (weightF (clampS s) n k).2 := by
  have h := weightF_small (clampS s) (clampS_le s) n k
  unfold small at h
  unfold In64
  omega
theorem acc_zero : accHi 0 = 0 ∧ accLo 0 = 0 := by unfold accHi accLo wrap64; decide
theorem bigInfo : (Tryd.prog.info? 67).map (fun i => (i.zero, i.size, i.bytes)) = some (some (.agg #[.int .i64 0, .int .u64 0, .int .i64 0, .int .u64 0]), 4, 32) := by kernel_rfl

theorem direct_yes (s : Nat) (hs : s ≤ 4) (l : List (Int × Int)) (hl : l.length = 2 ^ s) (h64 : ∀ j, j < l.length → In64 (l.getD j (0, 0)).1 ∧ In64 (l.getD j (0, 0)).2) (b off c : Nat) (w : World) (hT : CosW w) (hb : b < w.heap.size)
    (hz : ∀ j, j < l.length → w.cell? ⟨b, off + j * 2, none⟩ = some (.int .i64 (l.getD j (0, 0)).1) ∧ w.cell? ⟨b, off + j * 2 + 1, none⟩ = some (.int .i64 (l.getD j (0, 0)).2)) :
    Calls Tryd.prog 23 #[.slice (some ⟨b, off, none⟩) l.length c] w fun e w' => ∃ v, e = .returned v ∧ w'.ownsRow w.heap.size 67 4 v l.length ((directF s l).flatMap bigCells) ∧ Below w.heap.size w w' := by
  have hlen : l.length ≤ 16 := by
    have : s = 0 ∨ s = 1 ∨ s = 2 ∨ s = 3 ∨ s = 4 := by omega
    rw [hl]; rcases this with rfl | rfl | rfl | rfl | rfl <;> decide
  have hLen := len_pow s hs
  rw [← hl] at hLen
  have hsh : wrap64 (2 ^ s) = l.length := by rw [hl]; exact pow_wrap s hs
  have hpos : 0 < l.length := by rw [hl]; exact Nat.two_pow_pos s
  generalize hn : l.length = n at *
  have hw : IntKind.u64.wrap (n : Int) = n := by rw [IntKind.wrap_u64]; omega
  have HL := Lib.hid hl
  have HZ := Lib.hid hz
  have H64 := Lib.hid h64
  have Hn := Lib.hid hn
  have hcl := Lib.hid (clampS_nat s hs)
  clear hl hz h64 hn
  go_enter Tryd.func23, Tryd.ntmps23
  go_wp2_with (go_at_call 59; refine (len_any _ _ ?_ ?_).mono ?_; omega; omega; rintro e w' ⟨rfl, rfl⟩)
  clear hw hLen
  go_loopw [29, 4] (fun cnt v wr => ∃ k : Nat, k ≤ n ∧ cnt = .int .i64 k ∧ wr.ownsRow w.heap.size 67 4 v k (((List.range k).map fun i => sumTo s l i n).flatMap bigCells) ∧ Below w.heap.size w wr) (fun cnt _ _ => n - (intOf cnt).toNat)
  case atStart => exact ⟨0, by omega, rfl, World.ownsRow_nil _ _ _ _, Below.refl _ _⟩
  case round =>
    obtain ⟨k, hk, rfl, hown, hbel⟩ := hrel
    obtain ⟨wo, rfl⟩ : ∃ wo : World, wo = wr := ⟨_, rfl⟩
    by_cases hlt : k < n
    · have hlt' : (k : Int) < n := by omega
      have hz := HZ.out
      have hz1 : ∀ j, j < n → wo.cell? ⟨b, off + j * 2, none⟩ = some (.int .i64 (l.getD j (0, 0)).1) := fun j hj => (hbel.cell (p := ⟨b, _, none⟩) hb).trans (hz j hj).1
      have hz2 : ∀ j, j < n → wo.cell? ⟨b, off + j * 2 + 1, none⟩ = some (.int .i64 (l.getD j (0, 0)).2) := fun j hj => (hbel.cell (p := ⟨b, _, none⟩) hb).trans (hz j hj).2
      have HZ1 := Lib.hid hz1
      have HZ2 := Lib.hid hz2
      have hbo : b < wo.heap.size := Nat.lt_of_lt_of_le hb hbel.size
      have hbo1 : b < wo.heap.size + 1 := by omega
      have hTo : CosW wo := hT.below hbel
      have W1 := weight_any
      have B1 := pairBig_any
      have S1 := bigPlus_any
      unfold pairAgg at W1 B1
      unfold bigAgg at B1 S1
      have HW := Lib.hid W1
      have HB := Lib.hid B1
      have HS := Lib.hid S1
      clear hz hz1 hz2 W1 B1 S1
      go_wp2
      go_loopw [34] (fun cnt wr => ∃ j : Nat, j ≤ n ∧ cnt = .int .i64 j ∧ ∃ x, wr = (wo.alloc (.cells #[.int .i64 (accHi (sumTo s l k j).1), .int .u64 (accLo (sumTo s l k j).1), .int .i64 (accHi (sumTo s l k j).2), .int .u64 (accLo (sumTo s l k j).2)] 67)).grew x) (fun cnt _ => n - (intOf cnt).toNat)
      case atStart =>
        refine ⟨0, by omega, rfl, ?_⟩
        show ∃ x, _ = (wo.alloc (.cells #[.int .i64 (accHi 0), .int .u64 (accLo 0), .int .i64 (accHi 0), .int .u64 (accLo 0)] 67)).grew x
        rw [acc_zero.1, acc_zero.2]
        exact World.as_grew _
      case round =>
        obtain ⟨j, hj, rfl, x, rfl⟩ := hrel
        by_cases hjn : j < n
        · have hjn' : (j : Int) < n := by omega
          have hj0 : (0 : Int) ≤ j := by omega
          have c1 := HZ1.out j hjn
          have c2 := HZ2.out j hjn
          go_wp2_with fail
          first | refine wp_region_grew2 8 (by kernel_rfl) (by kernel_rfl) ?_ | refine wp_region_grew 8 (by kernel_rfl) (by kernel_rfl) ?_
          simp only [List.take_succ_cons, List.take_zero, List.drop_succ_cons, List.drop_zero]
          repeat (go_big_quiet_step (first | (go_at_call 20; refine Calls.grew_of (HW.out _ _ _ _ ?_); exact hTo.below (by (repeat' (first | (with_reducible exact Below.refl _ _) | (with_reducible assumption) | (with_reducible refine Below.alloc ?_ ?_ _) | (with_reducible refine below_grew ?_ ?_ _) | (with_reducible refine Below.setCell ?_ ?_ _) | (with_reducible refine Below.drew ?_) | (with_reducible refine below_drewN ?_ _) | omega | (simp; done) | (simp; omega))))) | (go_at_call 60; refine Calls.grew_of (HB.out _ _ _ _ ?_ ?_ ?_ ?_ _) <;> first | exact (H64.out j hjn).1 | exact (H64.out j hjn).2 | exact (weight_in64 _ _ _).1 | exact (weight_in64 _ _ _).2) | (go_at_call 24; exact Calls.grew_of (HS.out _ _ _ _ _))))
          refine wpQuiet_nil ?_
          rintro _ ⟨x, rfl⟩
          go_wp2
          go_roundw
          case rel => exact ⟨j + 1, by omega, by go_num, by rw [hcl.out]; simp only [World.alloc_grew, World.grew_grew]; exact ⟨_, rfl⟩⟩
          case measure => simp [intOf]; omega
        · obtain rfl : j = n := by omega
          have hown' := ownsRow_below hown (w' := (wo.alloc (.cells #[.int .i64 (accHi (sumTo s l k j).1), .int .u64 (accLo (sumTo s l k j).1), .int .i64 (accHi (sumTo s l k j).2), .int .u64 (accLo (sumTo s l k j).2)] 67)).grew x) (by (repeat' (first | (with_reducible exact Below.refl _ _) | (with_reducible assumption) | (with_reducible refine Below.alloc ?_ ?_ _) | (with_reducible refine below_grew ?_ ?_ _) | (with_reducible refine Below.setCell ?_ ?_ _) | (with_reducible refine Below.drew ?_) | (with_reducible refine below_drewN ?_ _) | omega | (simp; done) | (simp; omega))))
          have hbo' : w.heap.size ≤ wo.heap.size := hbel.size
          go_wp2_with (at_builtin; refine wpList_append_one rfl _ _ 61 rfl w.heap.size 67 _ 4 32 Tryd.underlying61 bigInfo rfl (by decide) _ k _ rfl hown' _ [_, _, _, _] rfl ?hg rfl ?h1 ?h63 ?hby ?hba ?_; (case hg => simp; done); (case h1 => simp [Value.oneCell']; done); (case h63 => exact maxLen_le (by omega)); (case hby => omega); (case hba => simp; omega); intro v' w2 hown2 hbel2 _ _)
          go_roundw
          case rel => exact ⟨k + 1, by omega, by go_num, by rw [List.range_succ, List.map_append, List.flatMap_append]; exact hown2, (below_grew (hbel.alloc hbo' _) (by simp; omega) _).trans hbel2⟩
          case measure => simp [intOf]; omega
    · obtain rfl : k = n := by omega
      go_wp2
      go_ret
      refine ⟨_, rfl, ?_, hbel⟩
      unfold directF
      rw [Hn.out]
      exact hown

theorem direct_none (a : Option Addr) (c : Nat) (w : World) :
    Calls Tryd.prog 23 #[.slice a 0 c] w fun e w' => e = .returned (.slice none 0 0) ∧ w = w' := by
  have hLen : Lib.bitLen 0 = 0 := by decide
  go_enter Tryd.func23, Tryd.ntmps23
  go_wp2_with (go_at_call 59; refine (len_any _ _ ?_ ?_).mono ?_; omega; omega; rintro e w' ⟨rfl, rfl⟩)
  go_ret
  exact ⟨rfl, rfl⟩
theorem direct_no (n s : Nat) (hs : s ≤ 4) (hn : n ≤ 32) (hL : Lib.bitLen n = s + 1) (hne : n ≠ 2 ^ s) (a : Option Addr) (c : Nat) (w : World) :
    Calls Tryd.prog 23 #[.slice a n c] w fun e w' => e = .returned (.slice none 0 0) ∧ w = w' := by
  have hsh := pow_wrap s hs
  have hw : IntKind.u64.wrap (n : Int) = n := by rw [IntKind.wrap_u64]; omega
  generalize hp : 2 ^ s = p at *
  have hne' : ((n : Int) != (p : Int)) = true := by rw [bne_iff_ne]; omega
  clear hp hne
  go_enter Tryd.func23, Tryd.ntmps23
  go_wp2_with (go_at_call 59; refine (len_any _ _ ?_ ?_).mono ?_; omega; omega; rintro e w' ⟨rfl, rfl⟩)
  go_ret
  exact ⟨rfl, rfl⟩
end Go.Proofs.YtmcjbejccelagaaDoor
