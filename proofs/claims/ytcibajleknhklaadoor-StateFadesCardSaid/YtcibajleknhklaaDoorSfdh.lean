/-
  StateApart, walked.
  (One text out of these parts: Dct, DctW, DctA, DctN, DctI, DctL, PlayQ, MixP, StT, Mode, ConcW, LoseW, PlayW, PlayX, Sat, Without, StRight, Peak, StL, RefRight, Awake26, Samp, ApaP, ApaW.)
-/
import Derived.Test.YtcibajleknhklaaDoorSfdg
import Derived.Test.YtcibajleknhklaaDoorProg
import Derived.Laws.PanicsMore
import Derived.BigQuiet
section
namespace Go.Proofs.YtcibajleknhklaaDoor
open Go.RowKit Go.BigFrame Go.Proofs.YtcibajleknhklaaDoorW.PrintWords Go.Proofs.YtcibajleknhklaaDoorW.PrintLast Go.Proofs.YtcibajleknhklaaDoorW.PrintMore
set_option linter.unusedSimpArgs false
set_option linter.unusedVariables false
/-- The pair of a spectrum at a place. -/
def dctPair (n : Nat) (x : Nat → Int) (j : Nat) : Int × Int := wmul (x (2 * j), x (n - 1 - 2 * j)) (turnF (((4 * j + 1) * 32 / n : Nat) : Int))
def dctZ (s : Nat) (x : Nat → Int) : List (Int × Int) := (List.range (2 ^ s)).map (dctPair (2 ^ (s + 1)) x)
def dctY (s : Nat) (x : Nat → Int) (k : Nat) : Int × Int := wmul (sumTo s (dctZ s x) k (2 ^ s)) (turnF ((k * 128 / 2 ^ (s + 1) : Nat) : Int))
def dctSh (s : Nat) : Nat := 12 * (s + 2)
def dctF (s : Nat) (x : Nat → Int) (i : Nat) : Int := if i % 2 = 0 then clamp32 (rnd (dctSh s) (dctY s x (i / 2)).1) else clamp32 (rnd (dctSh s) (-(dctY s x ((2 ^ (s + 1) - 1 - i) / 2)).2))
/-- A row of 32 bit numbers in a block. -/
def R32 (g N n : Nat) (T : TypeId) (f : Nat → Int) (w : World) : Prop := ∃ cs, w.heap[g]? = some (.cells cs T (0, 0)) ∧ cs.size = N ∧ ∀ i, i < n → cs[i]? = some (.int .i32 (f i))
theorem R32.lt {g N n T f} {w : World} (h : R32 g N n T f w) : g < w.heap.size := by obtain ⟨cs, h1, -, _⟩ := h; exact (block_facts h1).2.2
theorem R32.cell {g N n T f} {w : World} (h : R32 g N n T f w) (i : Nat) (hi : i < n) : w.cell? ⟨g, i, none⟩ = some (.int .i32 (f i)) ∧ w.frozen? ⟨g, i, none⟩ = false := by
  obtain ⟨cs, h1, hN, h2⟩ := h
  exact ⟨by rw [(block_facts h1).1]; exact h2 i hi, (block_facts h1).2.1 i⟩
theorem R32.block {g N n T f} {w w' : World} (h : R32 g N n T f w) (e : w'.heap[g]? = w.heap[g]?) : R32 g N n T f w' := by
  obtain ⟨cs, h1, hN, h2⟩ := h
  exact ⟨cs, e.trans h1, hN, h2⟩
theorem R32.keep {g N n T f} {w w' : World} (h : R32 g N n T f w) (hb : Below w.heap.size w w') : R32 g N n T f w' := h.block (hb.block g h.lt)
theorem R32.set {g N n T f} {w : World} (h : R32 g N n T f w) (i : Nat) (x : Int) : R32 g N n T (updI f i x) (w.setCell ⟨g, i, none⟩ (.int .i32 x)) := by
  obtain ⟨cs, h1, hN, h2⟩ := h
  refine ⟨_, setCell_own w g i cs T (0, 0) _ h1, by rw [Array.size_setIfInBounds]; exact hN, fun j hj => ?_⟩
  unfold updI
  by_cases e : j = i
  · subst e
    rw [if_pos rfl, Array.getElem?_setIfInBounds, if_pos rfl, if_pos (Array.getElem?_eq_some_iff.1 (h2 j hj)).1]
  · rw [if_neg e, Array.getElem?_setIfInBounds, if_neg (Ne.symm e)]
    exact h2 j hj
theorem R32.of_bx {g n : Nat} {T : TypeId} {f : Nat → Int} {w : World} (h : Bx g T (fun _ => .i32) n f w) : R32 g n n T f w := ⟨_, h, ag_size _ _ _, fun i hi => ag_get _ _ _ _ hi⟩
theorem R32.to_bx {g n : Nat} {T : TypeId} {f : Nat → Int} {w : World} (h : R32 g n n T f w) : Bx g T (fun _ => .i32) n f w := by
  obtain ⟨cs, h1, hN, h2⟩ := h
  have e : cs = ag (fun _ => .i32) n f := by
    apply Array.ext
    · rw [hN, ag_size]
    · intro i hi1 hi2
      have h3 := h2 i (by omega)
      have h4 := ag_get (fun _ => IntKind.i32) n f i (by omega)
      rw [← h4] at h3
      have := (Array.getElem?_eq_getElem hi1).symm.trans (h3.trans (Array.getElem?_eq_getElem hi2))
      exact Option.some.inj this
  rw [Bx, h1, e]
theorem R32.ext {g N n : Nat} {T : TypeId} {f f' : Nat → Int} {w : World} (h : R32 g N n T f w) (e : ∀ i, i < n → f i = f' i) : R32 g N n T f' w := by
  obtain ⟨cs, h1, hN, h2⟩ := h
  exact ⟨cs, h1, hN, fun i hi => by rw [← e i hi]; exact h2 i hi⟩
/-- There are three lengths. -/
theorem dct_s (s : Nat) (h1 : 2 ≤ s) (h2 : s ≤ 4) : s = 2 ∨ s = 3 ∨ s = 4 := by omega
theorem there_dct (s : Nat) (h1 : 2 ≤ s) (h2 : s ≤ 4) (w : World) : Calls Tryd.prog 65 #[.int .i64 ((2 ^ (s + 1) : Nat) : Int)] w fun e w' => e = .returned (.bool true) ∧ Below w.heap.size w w' := by
  have e8 : bits .and .i64 8 7 = 0 := by decide +kernel
  have e16 : bits .and .i64 16 15 = 0 := by decide +kernel
  have e32 : bits .and .i64 32 31 = 0 := by decide +kernel
  rcases dct_s s h1 h2 with rfl | rfl | rfl
  · show Calls Tryd.prog 65 #[.int .i64 8] w _
    go_enter Tryd.func65, Tryd.ntmps65
    go_wp2
    go_ret
    exact ⟨rfl, by (repeat' (first | (with_reducible exact Below.refl _ _) | (with_reducible assumption) | (with_reducible refine Below.alloc ?_ ?_ _) | (with_reducible refine below_grew ?_ ?_ _) | (with_reducible refine Below.setCell ?_ ?_ _) | (with_reducible refine Below.drew ?_) | (with_reducible refine below_drewN ?_ _) | omega | (simp; done) | (simp; omega)))⟩
  · show Calls Tryd.prog 65 #[.int .i64 16] w _
    go_enter Tryd.func65, Tryd.ntmps65
    go_wp2
    go_ret
    exact ⟨rfl, by (repeat' (first | (with_reducible exact Below.refl _ _) | (with_reducible assumption) | (with_reducible refine Below.alloc ?_ ?_ _) | (with_reducible refine below_grew ?_ ?_ _) | (with_reducible refine Below.setCell ?_ ?_ _) | (with_reducible refine Below.drew ?_) | (with_reducible refine below_drewN ?_ _) | omega | (simp; done) | (simp; omega)))⟩
  · show Calls Tryd.prog 65 #[.int .i64 32] w _
    go_enter Tryd.func65, Tryd.ntmps65
    go_wp2
    go_ret
    exact ⟨rfl, by (repeat' (first | (with_reducible exact Below.refl _ _) | (with_reducible assumption) | (with_reducible refine Below.alloc ?_ ?_ _) | (with_reducible refine below_grew ?_ ?_ _) | (with_reducible refine Below.setCell ?_ ?_ _) | (with_reducible refine Below.drew ?_) | (with_reducible refine below_drewN ?_ _) | omega | (simp; done) | (simp; omega)))⟩
theorem shift_any (s : Nat) (h1 : 2 ≤ s) (h2 : s ≤ 4) (w : World) : Calls Tryd.prog 106 #[.int .i64 ((2 ^ (s + 1) : Nat) : Int)] w fun e w' => e = .returned (.int .i64 (dctSh s : Int)) ∧ w = w' := by
  have l8 : Lib.bitLen (8 : Int).toNat = 4 := by decide +kernel
  have l16 : Lib.bitLen (16 : Int).toNat = 5 := by decide +kernel
  have l32 : Lib.bitLen (32 : Int).toNat = 6 := by decide +kernel
  have q8 := Lib.hid (fun w => len_any 8 w (by decide) (by decide))
  have q16 := Lib.hid (fun w => len_any 16 w (by decide) (by decide))
  have q32 := Lib.hid (fun w => len_any 32 w (by decide) (by decide))
  rw [l8] at q8
  rw [l16] at q16
  rw [l32] at q32
  have u8 : IntKind.u64.wrap 8 = 8 := by decide
  have u16 : IntKind.u64.wrap 16 = 16 := by decide
  have u32 : IntKind.u64.wrap 32 = 32 := by decide
  clear l8 l16 l32
  rcases dct_s s h1 h2 with rfl | rfl | rfl
  · show Calls Tryd.prog 106 #[.int .i64 8] w _
    go_enter Tryd.func106, Tryd.ntmps106
    go_wp2_with fail
    refine (q8.out _).mono ?_
    rintro e w' ⟨rfl, rfl⟩
    go_wp2_with fail
    go_ret
    exact ⟨rfl, rfl⟩
  · show Calls Tryd.prog 106 #[.int .i64 16] w _
    go_enter Tryd.func106, Tryd.ntmps106
    go_wp2_with fail
    refine (q16.out _).mono ?_
    rintro e w' ⟨rfl, rfl⟩
    go_wp2_with fail
    go_ret
    exact ⟨rfl, rfl⟩
  · show Calls Tryd.prog 106 #[.int .i64 32] w _
    go_enter Tryd.func106, Tryd.ntmps106
    go_wp2_with fail
    refine (q32.out _).mono ?_
    rintro e w' ⟨rfl, rfl⟩
    go_wp2_with fail
    go_ret
    exact ⟨rfl, rfl⟩
set_option maxHeartbeats 2000000 in
set_option maxRecDepth 100000 in
theorem pair_any (s : Nat) (h1 : 2 ≤ s) (h2 : s ≤ 4) (b off c : Nat) (x : Nat → Int) (w : World) (hT : CosW w) (hb : b < w.heap.size)
    (hx : ∀ i, i < 2 ^ (s + 1) → w.cell? ⟨b, off + i, none⟩ = some (.int .i32 (x i)) ∧ (-2147483648 ≤ x i ∧ x i ≤ 2147483647)) (j : Nat) (hj : j < 2 ^ s) :
    Calls Tryd.prog 66 #[.slice (some ⟨b, off, none⟩) (2 ^ (s + 1)) c, .int .i64 j] w fun e w' => e = .returned (pairAgg (dctPair (2 ^ (s + 1)) x j)) ∧ Below w.heap.size w w' := by
  obtain ⟨n, hn⟩ : ∃ n : Nat, 2 ^ (s + 1) = n := ⟨_, rfl⟩
  have hnh : n = 2 ^ s + 2 ^ s := by rw [← hn, Nat.pow_succ]; omega
  have hn8 : 8 ≤ n ∧ n ≤ 32 := by
    rcases dct_s s h1 h2 with rfl | rfl | rfl <;> (rw [← hn]; decide)
  rw [hn] at hx ⊢
  obtain ⟨e, he⟩ : ∃ e : Nat, 2 * j = e := ⟨_, rfl⟩
  obtain ⟨o, ho⟩ : ∃ o : Nat, n - 1 - e = o := ⟨_, rfl⟩
  have hen : e < n := by omega
  have hon : o < n := by omega
  obtain ⟨c0, p0⟩ := hx e hen
  obtain ⟨c1, p1⟩ := hx o hon
  obtain ⟨q, hq⟩ : ∃ q : Nat, (4 * j + 1) * 32 / n = q := ⟨_, rfl⟩
  have hje : 2 * (j : Int) = (e : Int) := by omega
  have hoe : (n : Int) - 1 - (e : Int) = (o : Int) := by omega
  have hqq : (4 * (j : Int) + 1) * 32 / (n : Int) = (q : Int) := by rw [← hq]; simp
  have HQQ := Lib.hid hqq
  clear hqq
  have hdp : dctPair n x j = wmul (x e, x o) (turnF (q : Int)) := by
    unfold dctPair
    rw [hq, he, ho]
  rw [hdp]
  have hte := times_exact (x e, x o) (turnF (q : Int)) (by unfold small; simp only; omega) (turnF_small _)
  have ht := times_any (x e, x o) (turnF (q : Int))
  rw [hte] at ht
  obtain ⟨P, hP⟩ : ∃ P, wmul (x e, x o) (turnF (q : Int)) = P := ⟨_, rfl⟩
  rw [hP] at ht ⊢
  have hu := fun w h => turn_any (q : Int) w h
  obtain ⟨T, hTT⟩ : ∃ T, turnF (q : Int) = T := ⟨_, rfl⟩
  rw [hTT] at ht hu
  generalize x e = xe at *
  generalize x o = xo at *
  unfold pairAgg at ht hu ⊢
  have HTM := Lib.hid ht
  have HTU := Lib.hid hu
  have HC := Lib.hid hT
  have he0 : (0 : Int) ≤ e := by omega
  have ho0 : (0 : Int) ≤ o := by omega
  have hen' : (e : Int) < n := by omega
  have hon' : (o : Int) < n := by omega
  have hn0 : ¬ n = 0 := by omega
  have w1 : (((e : Int)) + 9223372036854775808) % 18446744073709551616 - 9223372036854775808 = (e : Int) := by omega
  have w2 : (((n : Int) - 1) + 9223372036854775808) % 18446744073709551616 - 9223372036854775808 = (n : Int) - 1 := by omega
  have w3 : (((o : Int)) + 9223372036854775808) % 18446744073709551616 - 9223372036854775808 = (o : Int) := by omega
  have w4 : ((4 * (j : Int)) + 9223372036854775808) % 18446744073709551616 - 9223372036854775808 = 4 * (j : Int) := by omega
  have w5 : ((4 * (j : Int) + 1) + 9223372036854775808) % 18446744073709551616 - 9223372036854775808 = 4 * (j : Int) + 1 := by omega
  have w6 : (((4 * (j : Int) + 1) * 32) + 9223372036854775808) % 18446744073709551616 - 9223372036854775808 = (4 * (j : Int) + 1) * 32 := by omega
  clear hx hq hte hdp hP hTT ht hu hT hn hnh he ho
  go_enter Tryd.func66, Tryd.ntmps66
  go_wp2_with fail
  first | refine wp_region_grew2 24 (by kernel_rfl) (by kernel_rfl) ?_ | refine wp_region_grew 24 (by kernel_rfl) (by kernel_rfl) ?_
  simp only [List.take_succ_cons, List.take_zero, List.drop_succ_cons, List.drop_zero]
  repeat (go_big_quiet_step (first | (go_at_call 61; rw [HQQ.out]; refine Calls.grew_of (HTU.out _ ?_); exact HC.out.below (by (repeat' (first | (with_reducible exact Below.refl _ _) | (with_reducible assumption) | (with_reducible refine Below.alloc ?_ ?_ _) | (with_reducible refine below_grew ?_ ?_ _) | (with_reducible refine Below.setCell ?_ ?_ _) | (with_reducible refine Below.drew ?_) | (with_reducible refine below_drewN ?_ _) | omega | (simp; done) | (simp; omega))))) | (go_at_call 104; exact Calls.grew_of (HTM.out _))))
  refine wpQuiet_nil ?_
  rintro _ ⟨x, rfl⟩
  go_wp2_with fail
  refine bodyPost_ret (v := _) (by simp [results, Tryd.results66, go_sem]; rfl) rfl ⟨?_, ?_⟩
  · rfl
  · (repeat' (first | (with_reducible exact Below.refl _ _) | (with_reducible assumption) | (with_reducible refine Below.alloc ?_ ?_ _) | (with_reducible refine below_grew ?_ ?_ _) | (with_reducible refine Below.setCell ?_ ?_ _) | (with_reducible refine Below.drew ?_) | (with_reducible refine below_drewN ?_ _) | omega | (simp; done) | (simp; omega)))
theorem rnd_in (s : Nat) (hs : 0 < s) {z : Int} (h : In128 z) : In128 (rnd s z) := by
  have h1 : In128 (z / 2) := by unfold In128 at *; omega
  have hp : (0 : Int) < 2 ^ (s - 1) := Int.pow_pos (by decide)
  have e : z / 2 ^ s = z / 2 / 2 ^ (s - 1) := by
    rw [Int.ediv_ediv_of_nonneg (by decide), show (2 : Int) * 2 ^ (s - 1) = 2 ^ s from by
      conv => rhs; rw [show s = 1 + (s - 1) from by omega, Int.pow_add]
      rfl]
  have h2 : -85070591730234615865843651857942052864 ≤ z / 2 / 2 ^ (s - 1) ∧ z / 2 / 2 ^ (s - 1) < 85070591730234615865843651857942052864 := by
    have hz2 : -85070591730234615865843651857942052864 ≤ z / 2 ∧ z / 2 < 85070591730234615865843651857942052864 := by unfold In128 at h; omega
    constructor
    · refine Int.le_ediv_of_mul_le hp ?_
      have h1 : (1 : Int) ≤ 2 ^ (s - 1) := hp
      have := Int.mul_le_mul_of_nonneg_left h1 (show (0 : Int) ≤ 85070591730234615865843651857942052864 by decide)
      omega
    · by_cases h0 : 0 ≤ z / 2
      · exact Int.lt_of_le_of_lt (Int.ediv_le_self _ h0) hz2.2
      · have : z / 2 / 2 ^ (s - 1) < 0 := Int.ediv_neg_of_neg_of_pos (by omega) hp
        omega
  unfold rnd
  rw [e]
  generalize z / 2 / 2 ^ (s - 1) = u at *
  generalize z / 2 ^ (s - 1) = v
  unfold In128
  omega
theorem clamp_i32 (v : Int) : IntKind.i32.wrap (clamp32 v) = clamp32 v := by
  rw [IntKind.wrap_i32]; unfold clamp32; omega
set_option maxHeartbeats 2000000 in
set_option maxRecDepth 100000 in
theorem put_any (s : Nat) (h1 : 2 ≤ s) (h2 : s ≤ 4) (g N c : Nat) (T : TypeId) (f : Nat → Int) (S tu : Int × Int) (w : World) (hR : R32 g N (2 ^ (s + 1)) T f w) (hc64 : In64 tu.1 ∧ In64 tu.2)
    (hy1 : In128 (wmul S tu).1) (hy2 : In128 (-(wmul S tu).2)) (k : Nat) (hk : k < 2 ^ s) :
    Calls Tryd.prog 67 #[.slice (some ⟨g, 0, none⟩) (2 ^ (s + 1)) c, .int .i64 k, bigAgg S.1 S.2, pairAgg tu] w fun e w' => e = .returned (.tuple #[]) ∧ Upd g w w' ∧
      R32 g N (2 ^ (s + 1)) T (updI (updI f (2 * k) (clamp32 (rnd (dctSh s) (wmul S tu).1))) (2 ^ (s + 1) - 1 - 2 * k) (clamp32 (rnd (dctSh s) (-(wmul S tu).2)))) w' := by
  have hsh : dctSh s = 12 * (s + 2) := rfl
  have hS := fun w => shift_any s h1 h2 w
  obtain ⟨n, hn⟩ : ∃ n : Nat, 2 ^ (s + 1) = n := ⟨_, rfl⟩
  have hnh : n = 2 ^ s + 2 ^ s := by rw [← hn, Nat.pow_succ]; omega
  have hn8 : 8 ≤ n ∧ n ≤ 32 := by
    rcases dct_s s h1 h2 with rfl | rfl | rfl <;> (rw [← hn]; decide)
  rw [hn] at hS hR ⊢
  obtain ⟨e, he⟩ : ∃ e : Nat, 2 * k = e := ⟨_, rfl⟩
  obtain ⟨o, ho⟩ : ∃ o : Nat, n - 1 - e = o := ⟨_, rfl⟩
  rw [he, ho]
  have hen : e < n := by omega
  have hon : o < n := by omega
  have hke : 2 * (k : Int) = (e : Int) := by omega
  have hoe : (n : Int) - 1 - (e : Int) = (o : Int) := by omega
  obtain ⟨S1, S2⟩ := S
  obtain ⟨t1, t2⟩ := tu
  have hbt := fun w => bigTimes_any S1 S2 t1 t2 hc64.1 hc64.2 w
  obtain ⟨y1, hy1e⟩ : ∃ y, (wmul (S1, S2) (t1, t2)).1 = y := ⟨_, rfl⟩
  obtain ⟨y2, hy2e⟩ : ∃ y, (wmul (S1, S2) (t1, t2)).2 = y := ⟨_, rfl⟩
  rw [show S1 * t1 - S2 * t2 = y1 from hy1e, show S1 * t2 + S2 * t1 = y2 from hy2e] at hbt
  rw [hy1e] at hy1 ⊢
  rw [hy2e] at hy2 ⊢
  obtain ⟨sh, hshe⟩ : ∃ sh, dctSh s = sh := ⟨_, rfl⟩
  rw [hshe] at hS hsh ⊢
  have r1 := fun w => round_any y1 hy1 sh (by omega) (by omega) w
  have r2 := fun w => round_any (-y2) hy2 sh (by omega) (by omega) w
  have s1 := fun w => sat_any (rnd sh y1) (rnd_in sh (by omega) hy1) w
  have s2 := fun w => sat_any (rnd sh (-y2)) (rnd_in sh (by omega) hy2) w
  have n2 := fun w => neg_any y2 w
  have ci1 := clamp_i32 (rnd sh y1)
  have ci2 := clamp_i32 (rnd sh (-y2))
  generalize hv1 : clamp32 (rnd sh y1) = v1 at *
  generalize hv2 : clamp32 (rnd sh (-y2)) = v2 at *
  generalize rnd sh y1 = q1 at *
  generalize rnd sh (-y2) = q2 at *
  generalize -y2 = m2 at *
  unfold bigAgg pairAgg at hbt ⊢
  unfold accAgg at r1 r2 s1 s2 n2
  have HBT := Lib.hid hbt
  have HS := Lib.hid hS
  have HR1 := Lib.hid r1
  have HR2 := Lib.hid r2
  have HS1 := Lib.hid s1
  have HS2 := Lib.hid s2
  have HN2 := Lib.hid n2
  have HR := Lib.hid hR
  have he0 : (0 : Int) ≤ e := by omega
  have ho0 : (0 : Int) ≤ o := by omega
  have hen' : (e : Int) < n := by omega
  have hon' : (o : Int) < n := by omega
  have w1 : (((e : Int)) + 9223372036854775808) % 18446744073709551616 - 9223372036854775808 = (e : Int) := by omega
  have w2 : (((n : Int) - 1) + 9223372036854775808) % 18446744073709551616 - 9223372036854775808 = (n : Int) - 1 := by omega
  have w3 : (((o : Int)) + 9223372036854775808) % 18446744073709551616 - 9223372036854775808 = (o : Int) := by omega
  clear hy1 hy2 hy1e hy2e hbt hS r1 r2 s1 s2 n2 hR hc64 hsh hshe hn hnh hv1 hv2 he ho
  go_enter Tryd.func67, Tryd.ntmps67
  go_upto_region 3 with (go_at_call 102; refine (HBT.out _).mono ?_; rintro e w1 ⟨rfl, hb1⟩; have HB1 := Lib.hid (show Below w.heap.size w w1 from Below.trans (by (repeat' (first | (with_reducible exact Below.refl _ _) | (with_reducible assumption) | (with_reducible refine Below.alloc ?_ ?_ _) | (with_reducible refine below_grew ?_ ?_ _) | (with_reducible refine Below.setCell ?_ ?_ _) | (with_reducible refine Below.drew ?_) | (with_reducible refine below_drewN ?_ _) | omega | (simp; done) | (simp; omega)))) (hb1.mono (by simp; omega))); clear hb1)
  refine cut_world (fun Z => Below w.heap.size w Z ∧ Z.heap[w1.heap.size]? = some (.cells #[.int .i64 (accHi y1), .int .u64 (accLo y1), .int .i64 (accHi y2), .int .u64 (accLo y2)] BigT (0, 0))) ⟨by have := HB1.out; have := HB1.out.size; (repeat' (first | (with_reducible exact Below.refl _ _) | (with_reducible assumption) | (with_reducible refine Below.alloc ?_ ?_ _) | (with_reducible refine below_grew ?_ ?_ _) | (with_reducible refine Below.setCell ?_ ?_ _) | (with_reducible refine Below.drew ?_) | (with_reducible refine below_drewN ?_ _) | omega | (simp; done) | (simp; omega))), alloc_at _ _⟩ ?_
  have hyw : w.heap.size ≤ w1.heap.size := HB1.out.size
  clear HB1
  generalize w1.heap.size = yb at *
  rintro Z ⟨hbZ, hcZ⟩
  have HBZ := Lib.hid hbZ
  have hRZ := HR.out.block (hbZ.block g HR.out.lt)
  have HRZ := Lib.hid hRZ
  have hgy : g < yb := Nat.lt_of_lt_of_le HR.out.lt hyw
  obtain ⟨k1, k2, hyl⟩ := block_facts hcZ
  have y0 := k1 0
  have yy1 := k1 1
  have yy2 := k1 2
  have yy3 := k1 3
  simp only [List.getElem?_toArray, List.getElem?_cons_zero, List.getElem?_cons_succ] at y0 yy1 yy2 yy3
  have HCZ := Lib.hid hcZ
  have hgl := hRZ.lt
  clear k1 k2 hbZ hcZ hRZ HBT HR
  refine wp_region_inv [] (fun W => Below Z.heap.size Z W) (fun W W' => Below W.heap.size W W') 10 (by kernel_rfl) (by kernel_rfl) (by kernel_rfl) ((Below.refl _ _).drew) (fun W W' h h' => h.trans (h'.mono h.size)) (fun _ _ h => h.size) ?_
  simp only [List.take_succ_cons, List.take_zero, List.drop_succ_cons, List.drop_zero]
  refine wpInv_det (by kernel_rfl) (by kernel_rfl) ?_
  apply Exists.intro
  refine ⟨?_, ?_, ?_⟩
  · intro U W hC hH
    have hc1 := (bcell hC).1
    have hf1 := (bcell hC).2
    simp only [HypsU, predsOf, Region.binds, List.filterMap_cons, List.filterMap_nil, if_true, List.nil_append, List.cons_append, List.getD_cons_zero, List.getD_cons_succ] at hH
    simp only [fillPuts, Act.put, List.setIfInBounds_toArray, List.set_cons_zero, List.set_cons_succ, Nat.reduceAdd]
    go_wp2_with fail
    refine ⟨rfl, rfl, by (repeat' (first | (with_reducible exact Below.refl _ _) | (with_reducible assumption) | (with_reducible refine Below.alloc ?_ ?_ _) | (with_reducible refine below_grew ?_ ?_ _) | (with_reducible refine Below.setCell ?_ ?_ _) | (with_reducible refine Below.drew ?_) | (with_reducible refine below_drewN ?_ _) | omega | (simp; done) | (simp; omega))), ?_⟩
    conv => lhs; whnf
    try rfl
  · exact fun _ => rfl
  simp only [List.nil_append, List.cons_append, Nat.reduceAdd]
  refine wpInv_det (by kernel_rfl) (by kernel_rfl) ?_
  apply Exists.intro
  refine ⟨?_, ?_, ?_⟩
  · intro U W hC hH
    have hc1 := (bcell hC).1
    have hf1 := (bcell hC).2
    simp only [HypsU, predsOf, Region.binds, List.filterMap_cons, List.filterMap_nil, if_true, List.nil_append, List.cons_append, List.getD_cons_zero, List.getD_cons_succ] at hH
    simp only [fillPuts, Act.put, List.setIfInBounds_toArray, List.set_cons_zero, List.set_cons_succ, Nat.reduceAdd]
    go_wp2_with fail
    refine ⟨rfl, rfl, by (repeat' (first | (with_reducible exact Below.refl _ _) | (with_reducible assumption) | (with_reducible refine Below.alloc ?_ ?_ _) | (with_reducible refine below_grew ?_ ?_ _) | (with_reducible refine Below.setCell ?_ ?_ _) | (with_reducible refine Below.drew ?_) | (with_reducible refine below_drewN ?_ _) | omega | (simp; done) | (simp; omega))), ?_⟩
    conv => lhs; whnf
    try rfl
  · exact fun _ => rfl
  simp only [List.nil_append, List.cons_append, Nat.reduceAdd]
  refine wpInv_det (by kernel_rfl) (by kernel_rfl) ?_
  apply Exists.intro
  refine ⟨?_, ?_, ?_⟩
  · intro U W hC hH
    have hc1 := (bcell hC).1
    have hf1 := (bcell hC).2
    simp only [HypsU, predsOf, Region.binds, List.filterMap_cons, List.filterMap_nil, if_true, List.nil_append, List.cons_append, List.getD_cons_zero, List.getD_cons_succ] at hH
    simp only [fillPuts, Act.put, List.setIfInBounds_toArray, List.set_cons_zero, List.set_cons_succ, Nat.reduceAdd]
    go_wp2_with fail
    refine ⟨rfl, rfl, by (repeat' (first | (with_reducible exact Below.refl _ _) | (with_reducible assumption) | (with_reducible refine Below.alloc ?_ ?_ _) | (with_reducible refine below_grew ?_ ?_ _) | (with_reducible refine Below.setCell ?_ ?_ _) | (with_reducible refine Below.drew ?_) | (with_reducible refine below_drewN ?_ _) | omega | (simp; done) | (simp; omega))), ?_⟩
    conv => lhs; whnf
    try rfl
  · exact fun _ => rfl
  simp only [List.nil_append, List.cons_append, Nat.reduceAdd]
  refine wpInv_det (by kernel_rfl) (by kernel_rfl) ?_
  apply Exists.intro
  refine ⟨?_, ?_, ?_⟩
  · intro U W hC hH
    have hc1 := (bcell hC).1
    have hf1 := (bcell hC).2
    simp only [HypsU, predsOf, Region.binds, List.filterMap_cons, List.filterMap_nil, if_true, List.nil_append, List.cons_append, List.getD_cons_zero, List.getD_cons_succ] at hH
    simp only [fillPuts, Act.put, List.setIfInBounds_toArray, List.set_cons_zero, List.set_cons_succ, Nat.reduceAdd]
    go_wp2_with fail
    refine ⟨rfl, rfl, by (repeat' (first | (with_reducible exact Below.refl _ _) | (with_reducible assumption) | (with_reducible refine Below.alloc ?_ ?_ _) | (with_reducible refine below_grew ?_ ?_ _) | (with_reducible refine Below.setCell ?_ ?_ _) | (with_reducible refine Below.drew ?_) | (with_reducible refine below_drewN ?_ _) | omega | (simp; done) | (simp; omega))), ?_⟩
    conv => lhs; whnf
    try rfl
  · exact fun _ => rfl
  simp only [List.nil_append, List.cons_append, Nat.reduceAdd]
  refine wpInv_det (by kernel_rfl) (by kernel_rfl) ?_
  apply Exists.intro
  refine ⟨?_, ?_, ?_⟩
  · intro U W hC hH
    have hc1 := (bcell hC).1
    have hf1 := (bcell hC).2
    simp only [HypsU, predsOf, Region.binds, List.filterMap_cons, List.filterMap_nil, if_true, List.nil_append, List.cons_append, List.getD_cons_zero, List.getD_cons_succ] at hH
    simp only [fillPuts, Act.put, List.setIfInBounds_toArray, List.set_cons_zero, List.set_cons_succ, Nat.reduceAdd]
    go_wp2_with fail
    refine ⟨rfl, rfl, by (repeat' (first | (with_reducible exact Below.refl _ _) | (with_reducible assumption) | (with_reducible refine Below.alloc ?_ ?_ _) | (with_reducible refine below_grew ?_ ?_ _) | (with_reducible refine Below.setCell ?_ ?_ _) | (with_reducible refine Below.drew ?_) | (with_reducible refine below_drewN ?_ _) | omega | (simp; done) | (simp; omega))), ?_⟩
    conv => lhs; whnf
    try rfl
  · exact fun _ => rfl
  simp only [List.nil_append, List.cons_append, Nat.reduceAdd]
  refine wpInv_det (by kernel_rfl) (by kernel_rfl) ?_
  apply Exists.intro
  refine ⟨?_, ?_, ?_⟩
  · intro U W hC hH
    have hc1 := (bcell hC).1
    have hf1 := (bcell hC).2
    simp only [HypsU, predsOf, Region.binds, List.filterMap_cons, List.filterMap_nil, if_true, List.nil_append, List.cons_append, List.getD_cons_zero, List.getD_cons_succ] at hH
    simp only [fillPuts, Act.put, List.setIfInBounds_toArray, List.set_cons_zero, List.set_cons_succ, Nat.reduceAdd]
    go_wp2_with fail
    refine ⟨rfl, rfl, by (repeat' (first | (with_reducible exact Below.refl _ _) | (with_reducible assumption) | (with_reducible refine Below.alloc ?_ ?_ _) | (with_reducible refine below_grew ?_ ?_ _) | (with_reducible refine Below.setCell ?_ ?_ _) | (with_reducible refine Below.drew ?_) | (with_reducible refine below_drewN ?_ _) | omega | (simp; done) | (simp; omega))), ?_⟩
    conv => lhs; whnf
    try rfl
  · exact fun _ => rfl
  simp only [List.nil_append, List.cons_append, Nat.reduceAdd]
  refine wpInv_det (by kernel_rfl) (by kernel_rfl) ?_
  apply Exists.intro
  refine ⟨?_, ?_, ?_⟩
  · intro U W hC hH
    have hc1 := (bcell hC).1
    have hf1 := (bcell hC).2
    simp only [HypsU, predsOf, Region.binds, List.filterMap_cons, List.filterMap_nil, if_true, List.nil_append, List.cons_append, List.getD_cons_zero, List.getD_cons_succ] at hH
    simp only [fillPuts, Act.put, List.setIfInBounds_toArray, List.set_cons_zero, List.set_cons_succ, Nat.reduceAdd]
    go_wp2_with fail; refine (HS.out _).mono ?_; rintro e w' ⟨rfl, rfl⟩; go_wp2_with fail
    refine ⟨rfl, rfl, by (repeat' (first | (with_reducible exact Below.refl _ _) | (with_reducible assumption) | (with_reducible refine Below.alloc ?_ ?_ _) | (with_reducible refine below_grew ?_ ?_ _) | (with_reducible refine Below.setCell ?_ ?_ _) | (with_reducible refine Below.drew ?_) | (with_reducible refine below_drewN ?_ _) | omega | (simp; done) | (simp; omega))), ?_⟩
    conv => lhs; whnf
    try rfl
  · exact fun _ => rfl
  simp only [List.nil_append, List.cons_append, Nat.reduceAdd]
  refine wpInv_det (by kernel_rfl) (by kernel_rfl) ?_
  apply Exists.intro
  refine ⟨?_, ?_, ?_⟩
  · intro U W hC hH
    have hc1 := (bcell hC).1
    have hf1 := (bcell hC).2
    simp only [HypsU, predsOf, Region.binds, List.filterMap_cons, List.filterMap_nil, if_true, List.nil_append, List.cons_append, List.getD_cons_zero, List.getD_cons_succ] at hH
    simp only [fillPuts, Act.put, List.setIfInBounds_toArray, List.set_cons_zero, List.set_cons_succ, Nat.reduceAdd]
    go_wp2_with fail; refine (HR1.out _).mono ?_; rintro e w' ⟨rfl, hb1⟩; obtain ⟨x1, rfl⟩ := below_as_grew hb1; clear hb1; go_wp2_with fail
    refine ⟨rfl, rfl, by (repeat' (first | (with_reducible exact Below.refl _ _) | (with_reducible assumption) | (with_reducible refine Below.alloc ?_ ?_ _) | (with_reducible refine below_grew ?_ ?_ _) | (with_reducible refine Below.setCell ?_ ?_ _) | (with_reducible refine Below.drew ?_) | (with_reducible refine below_drewN ?_ _) | omega | (simp; done) | (simp; omega))), ?_⟩
    conv => lhs; whnf
    try rfl
  · exact fun _ => rfl
  simp only [List.nil_append, List.cons_append, Nat.reduceAdd]
  refine wpInv_det (by kernel_rfl) (by kernel_rfl) ?_
  apply Exists.intro
  refine ⟨?_, ?_, ?_⟩
  · intro U W hC hH
    have hc1 := (bcell hC).1
    have hf1 := (bcell hC).2
    simp only [HypsU, predsOf, Region.binds, List.filterMap_cons, List.filterMap_nil, if_true, List.nil_append, List.cons_append, List.getD_cons_zero, List.getD_cons_succ] at hH
    simp only [fillPuts, Act.put, List.setIfInBounds_toArray, List.set_cons_zero, List.set_cons_succ, Nat.reduceAdd]
    go_wp2_with fail; refine (HS1.out _).mono ?_; rintro e w' ⟨rfl, hb1⟩; obtain ⟨x1, rfl⟩ := below_as_grew hb1; clear hb1; go_wp2_with fail
    refine ⟨rfl, rfl, by (repeat' (first | (with_reducible exact Below.refl _ _) | (with_reducible assumption) | (with_reducible refine Below.alloc ?_ ?_ _) | (with_reducible refine below_grew ?_ ?_ _) | (with_reducible refine Below.setCell ?_ ?_ _) | (with_reducible refine Below.drew ?_) | (with_reducible refine below_drewN ?_ _) | omega | (simp; done) | (simp; omega))), ?_⟩
    conv => lhs; whnf
    try rfl
  · exact fun _ => rfl
  simp only [List.nil_append, List.cons_append, Nat.reduceAdd]
  refine wpInv_det (by kernel_rfl) (by kernel_rfl) ?_
  apply Exists.intro
  refine ⟨?_, ?_, ?_⟩
  · intro U W hC hH
    have hc1 := (bcell hC).1
    have hf1 := (bcell hC).2
    simp only [HypsU, predsOf, Region.binds, List.filterMap_cons, List.filterMap_nil, if_true, List.nil_append, List.cons_append, List.getD_cons_zero, List.getD_cons_succ] at hH
    simp only [fillPuts, Act.put, List.setIfInBounds_toArray, List.set_cons_zero, List.set_cons_succ, Nat.reduceAdd]
    go_wp2_with fail
    refine ⟨rfl, rfl, by (repeat' (first | (with_reducible exact Below.refl _ _) | (with_reducible assumption) | (with_reducible refine Below.alloc ?_ ?_ _) | (with_reducible refine below_grew ?_ ?_ _) | (with_reducible refine Below.setCell ?_ ?_ _) | (with_reducible refine Below.drew ?_) | (with_reducible refine below_drewN ?_ _) | omega | (simp; done) | (simp; omega))), ?_⟩
    conv => lhs; whnf
    try rfl
  · exact fun _ => rfl
  simp only [List.nil_append, List.cons_append, Nat.reduceAdd]
  simp only [List.nil_append, List.cons_append, Nat.reduceAdd, fillPuts, Act.put, List.setIfInBounds_toArray, List.set_cons_zero, List.set_cons_succ]
  rintro U W hC ⟨h0, h1, h2, h3, h4, h5, h6, h7, h8, h9, -⟩ -
  simp only [h0, h1, h2, h3, h4, h5, h6, h7, h8, h9]
  clear h0 h1 h2 h3 h4 h5 h6 h7 h8 h9 y0 yy1 yy2 yy3
  have hRW := HRZ.out.keep hC
  obtain ⟨c0, f0⟩ := hRW.cell e hen
  have hq := hRW.set e v1
  have HQ := Lib.hid hq
  have hUW := (Upd.of_below (g := g) (HBZ.out)).trans ((Upd.of_below hC).trans (Upd.of_only (only_setCell W ⟨g, e, none⟩ (.int .i32 v1))))
  have HUW := Lib.hid hUW
  have hgl2 := hRW.lt
  have hcy : (W.setCell ⟨g, e, none⟩ (.int .i32 v1)).heap[yb]? = some (.cells #[.int .i64 (accHi y1), .int .u64 (accLo y1), .int .i64 (accHi y2), .int .u64 (accLo y2)] BigT (0, 0)) :=
    ((only_setCell W ⟨g, e, none⟩ (.int .i32 v1)).block yb (by show yb ≠ g; omega)).trans ((hC.block yb (block_facts HCZ.out).2.2).trans HCZ.out)
  have HCY := Lib.hid hcy
  clear hq hUW hRW hcy hC
  go_upto_region 4 with fail
  refine cut_world (fun Y => Upd g w Y ∧ R32 g N n T (updI f e v1) Y ∧ Y.heap[yb]? = some (.cells #[.int .i64 (accHi y1), .int .u64 (accLo y1), .int .i64 (accHi y2), .int .u64 (accLo y2)] BigT (0, 0))) ⟨HUW.out, HQ.out, HCY.out⟩ ?_
  clear HQ HUW HCY HRZ HBZ HCZ c0 f0 hgl2 hgl hyl
  clear W Z
  rintro Y ⟨hu, hRY, hcY⟩
  obtain ⟨k1, k2, hyl⟩ := block_facts hcY
  have y0 := k1 0
  have yy1 := k1 1
  have yy2 := k1 2
  have yy3 := k1 3
  simp only [List.getElem?_toArray, List.getElem?_cons_zero, List.getElem?_cons_succ] at y0 yy1 yy2 yy3
  have HUY := Lib.hid hu
  have HRY := Lib.hid hRY
  clear k1 k2 hu hRY hcY
  go_wp2_with fail
  refine (HN2.out _).mono ?_
  rintro e w2 ⟨rfl, hb2⟩
  have HB2 := Lib.hid hb2
  clear hb2
  go_wp2_with fail
  refine (HS.out _).mono ?_
  rintro e w3 ⟨rfl, rfl⟩
  go_wp2_with fail
  refine (HR2.out _).mono ?_
  rintro e w3 ⟨rfl, hb3⟩
  have HB3 := Lib.hid (HB2.out.trans (hb3.mono HB2.out.size))
  clear hb3
  go_wp2_with fail
  refine (HS2.out _).mono ?_
  rintro e w4 ⟨rfl, hb4⟩
  have HB4 := Lib.hid (HB3.out.trans (hb4.mono HB3.out.size))
  clear hb4
  have hRW := HRY.out.keep HB4.out
  obtain ⟨c0, f0⟩ := hRW.cell o hon
  have hq := hRW.set o v2
  have HQ := Lib.hid hq
  have hUW := HUY.out.trans ((Upd.of_below HB4.out).trans (Upd.of_only (only_setCell w4 ⟨g, o, none⟩ (.int .i32 v2))))
  have HUW := Lib.hid hUW
  have hgl2 := hRW.lt
  clear hq hUW hRW
  go_wp2_with fail
  go_end0
  exact ⟨rfl, HUW.out, HQ.out⟩
end Go.Proofs.YtcibajleknhklaaDoor
end

section
namespace Go.Proofs.YtcibajleknhklaaDoor
open Go.RowKit Go.BigFrame Go.Proofs.YtcibajleknhklaaDoorW.PrintWords Go.Proofs.YtcibajleknhklaaDoorW.PrintLast Go.Proofs.YtcibajleknhklaaDoorW.PrintMore
set_option linter.unusedSimpArgs false
set_option linter.unusedVariables false
theorem dctPair_small (n : Nat) (x : Nat → Int) (j : Nat) (h : ∀ i, -2147483648 ≤ x i ∧ x i ≤ 2147483647) : small 17592186044416 (dctPair n x j) := by
  have := wmul_small (b := 2147483648) (c := 4096) (p := (x (2 * j), x (n - 1 - 2 * j))) (q := turnF (((4 * j + 1) * 32 / n : Nat) : Int)) (by have := h (2 * j); have := h (n - 1 - 2 * j); unfold small; simp only; omega) (turnF_small _)
  unfold dctPair
  exact this
theorem sumTo_small (s : Nat) (hs : s ≤ 4) (l : List (Int × Int)) (k : Nat) : ∀ m : Nat, m ≤ 16 → (∀ j, j < m → small 17592186044416 (l.getD j (0, 0))) → small ((m : Int) * 158456325028528675187087900672) (sumTo s l k m)
  | 0, _, _ => by unfold sumTo small; simp
  | m + 1, hm, h => by
    have ih := sumTo_small s hs l k m (by omega) (fun j hj => h j (by omega))
    have ht := wmul_small (h m (by omega)) (weightF_small s hs m k)
    rw [sumTo]
    unfold small at ih ⊢
    unfold term
    unfold small at ht
    obtain ⟨a1, a2, a3, a4⟩ := ih
    obtain ⟨b1, b2, b3, b4⟩ := ht
    refine ⟨?_, ?_, ?_, ?_⟩ <;> simp only <;> omega
theorem dctZ_len (s : Nat) (x : Nat → Int) : (dctZ s x).length = 2 ^ s := by simp [dctZ]
theorem dctZ_at (s : Nat) (x : Nat → Int) (j : Nat) (h : j < 2 ^ s) : (dctZ s x).getD j (0, 0) = dctPair (2 ^ (s + 1)) x j := by
  simp [dctZ, List.getD_eq_getElem?_getD, h]
theorem dctY_in (s : Nat) (h1 : 2 ≤ s) (h2 : s ≤ 4) (x : Nat → Int) (k : Nat) (h : ∀ i, -2147483648 ≤ x i ∧ x i ≤ 2147483647) : In128 (dctY s x k).1 ∧ In128 (-(dctY s x k).2) := by
  have hs16 : 2 ^ s ≤ 16 := by rcases dct_s s h1 h2 with rfl | rfl | rfl <;> decide
  have a := sumTo_small s h2 (dctZ s x) k (2 ^ s) hs16 (fun j hj => by rw [dctZ_at s x j hj]; exact dctPair_small _ x j h)
  have a' : small (16 * 158456325028528675187087900672) (sumTo s (dctZ s x) k (2 ^ s)) := by
    unfold small at a ⊢
    generalize 2 ^ s = m at *
    omega
  have b := wmul_small a' (turnF_small ((k * 128 / 2 ^ (s + 1) : Nat) : Int))
  unfold dctY
  unfold small at b
  unfold In128
  omega
theorem zrow (n : Nat) (x : Nat → Int) (k : Nat) : (((List.range (k + 1)).map (dctPair n x)).flatMap pairCells) = (((List.range k).map (dctPair n x)).flatMap pairCells) ++ [.int .i64 (dctPair n x k).1, .int .i64 (dctPair n x k).2] := by
  simp [List.range_succ, pairCells]
theorem zrow_at (F : Nat → Int × Int) : ∀ n j i, j < n → i < 2 → (((List.range n).map F).flatMap pairCells)[j * 2 + i]? = (pairCells (F j))[i]?
  | 0, j, i, h, _ => absurd h (by omega)
  | n + 1, j, i, h, hi => by
    have hl : ∀ m, (((List.range m).map F).flatMap pairCells).length = m * 2 := fun m => by
      induction m with
      | zero => rfl
      | succ m ih => rw [List.range_succ, List.map_append, List.flatMap_append, List.length_append, ih]; simp [pairCells]; omega
    rw [List.range_succ, List.map_append, List.flatMap_append]
    by_cases e : j < n
    · rw [List.getElem?_append_left (by rw [hl]; omega)]
      exact zrow_at F n j i e hi
    · obtain rfl : j = n := by omega
      rw [List.getElem?_append_right (by rw [hl]; omega), hl]
      simp [show j * 2 + i - j * 2 = i by omega]
/-- The direct sum of a list that lies in a row. -/
theorem direct_list (t : Nat) (ht : t ≤ 4) (l : List (Int × Int)) (n : Nat) (hn : 2 ^ t = n) (hl : l.length = n) (h64 : ∀ j, j < n → In64 (l.getD j (0, 0)).1 ∧ In64 (l.getD j (0, 0)).2) (zb zc : Nat) (w : World) (hT : CosW w) (hzl : zb < w.heap.size)
    (hz : ∀ j, j < n → w.cell? ⟨zb, j * 2, none⟩ = some (.int .i64 (l.getD j (0, 0)).1) ∧ w.cell? ⟨zb, j * 2 + 1, none⟩ = some (.int .i64 (l.getD j (0, 0)).2)) :
    Calls Tryd.prog 26 #[.slice (some ⟨zb, 0, none⟩) n zc] w fun e w' => ∃ db dc, e = .returned (.slice (some ⟨db, 0, none⟩) n dc) ∧ w.heap.size ≤ db ∧ db < w'.heap.size ∧ (∀ j, j < n → ∀ i u, (bigCells (sumTo t l j n))[i]? = some u → w'.cell? ⟨db, j * 4 + i, none⟩ = some u) ∧ Below w.heap.size w w' := by
  have hd := direct_yes t ht l (by rw [hl, hn]) (fun j hj => h64 j (by omega)) zb 0 zc w hT hzl (fun j hj => by rw [Nat.zero_add]; exact hz j (by omega))
  rw [hl] at hd
  have hn0 : 0 < n := by rw [← hn]; exact Nat.pow_pos (by decide)
  refine hd.mono ?_
  rintro e w' ⟨v, rfl, ho, hb⟩
  obtain ⟨db, dc, rfl, h1, h0, h3⟩ := own_cells ho hn0
  refine ⟨db, dc, rfl, h0, h1, fun j hj i u hu => ?_, hb⟩
  have hi : i < 4 := (List.getElem?_eq_some_iff.1 hu).1
  rw [h3 (j * 4 + i) (by omega), ← hu]
  unfold directF
  rw [hl, bigs_at _ n j i hj hi]
/-- The first k sums have been put. -/
def putTo (s : Nat) (x : Nat → Int) (k : Nat) (i : Nat) : Int := if i % 2 = 0 then (if i / 2 < k then dctF s x i else 0) else (if (2 ^ (s + 1) - 1 - i) / 2 < k then dctF s x i else 0)
theorem putTo_step (s : Nat) (x : Nat → Int) (k : Nat) (hk : k < 2 ^ s) (i : Nat) (hi : i < 2 ^ (s + 1)) :
    updI (updI (putTo s x k) (2 * k) (clamp32 (rnd (dctSh s) (dctY s x k).1))) (2 ^ (s + 1) - 1 - 2 * k) (clamp32 (rnd (dctSh s) (-(dctY s x k).2))) i = putTo s x (k + 1) i := by
  have hn : 2 ^ (s + 1) = 2 ^ s + 2 ^ s := by rw [Nat.pow_succ]; omega
  have hev : 2 ^ s % 2 = 0 ∨ 2 ^ s = 1 := by
    rcases Nat.eq_zero_or_pos s with e | e
    · subst e; exact .inr rfl
    · left
      obtain ⟨t, rfl⟩ : ∃ t, s = t + 1 := ⟨s - 1, by omega⟩
      rw [Nat.pow_succ]; omega
  unfold updI
  by_cases a : i = 2 ^ (s + 1) - 1 - 2 * k
  · rw [if_pos a]
    unfold putTo dctF
    rw [if_neg (by omega), if_pos (by omega), if_neg (by omega), show (2 ^ (s + 1) - 1 - i) / 2 = k from by omega]
  · rw [if_neg a]
    by_cases b : i = 2 * k
    · rw [if_pos b]
      unfold putTo dctF
      rw [if_pos (by omega), if_pos (by omega), if_pos (by omega), show i / 2 = k from by omega]
    · rw [if_neg b]
      unfold putTo
      by_cases c : i % 2 = 0
      · rw [if_pos c, if_pos c]
        by_cases d : i / 2 < k
        · rw [if_pos d, if_pos (by omega)]
        · rw [if_neg d, if_neg (by omega)]
      · rw [if_neg c, if_neg c]
        by_cases d : (2 ^ (s + 1) - 1 - i) / 2 < k
        · rw [if_pos d, if_pos (by omega)]
        · rw [if_neg d, if_neg (by omega)]
theorem putTo_all (s : Nat) (x : Nat → Int) (i : Nat) (hi : i < 2 ^ (s + 1)) : putTo s x (2 ^ s) i = dctF s x i := by
  have hn : 2 ^ (s + 1) = 2 ^ s + 2 ^ s := by rw [Nat.pow_succ]; omega
  unfold putTo
  by_cases c : i % 2 = 0
  · rw [if_pos c, if_pos (by omega)]
  · rw [if_neg c, if_pos (by omega)]
theorem i32_zero (i : Nat) : (Value.int .i32 0).cells[i % (Value.int .i32 0).cells.size]! = .int ((fun _ : Nat => IntKind.i32) i) 0 := by
  show (#[Value.int .i32 0] : Array Value)[i % 1]! = .int .i32 0
  rw [Nat.mod_one]; rfl
set_option maxHeartbeats 4000000 in
set_option maxRecDepth 100000 in
theorem dctPlain_any (s : Nat) (h1 : 2 ≤ s) (h2 : s ≤ 4) (b off c : Nat) (x : Nat → Int) (w : World) (hT : CosW w) (hb : b < w.heap.size)
    (hx : ∀ i, i < 2 ^ (s + 1) → w.cell? ⟨b, off + i, none⟩ = some (.int .i32 (x i))) (hx32 : ∀ i, -2147483648 ≤ x i ∧ x i ≤ 2147483647) :
    Calls Tryd.prog 25 #[.slice (some ⟨b, off, none⟩) (2 ^ (s + 1)) c] w fun e w' => ∃ g, e = .returned (.slice (some ⟨g, 0, none⟩) (2 ^ (s + 1)) (2 ^ (s + 1))) ∧ w.heap.size ≤ g ∧
      Bx g 21 (fun _ => .i32) (2 ^ (s + 1)) (dctF s x) w' ∧ Below w.heap.size w w' := by
  have hth := fun w => there_dct s h1 h2 w
  have hpa := fun w hT hb hx j hj => pair_any s h1 h2 b off c x w hT hb hx j hj
  have hput := fun g f S tu w hR h64 hy1 hy2 k hk => put_any s h1 h2 g (2 ^ (s + 1)) (2 ^ (s + 1)) 21 f S tu w hR h64 hy1 hy2 k hk
  have hpt := putTo_step s x
  have hpl := putTo_all s x
  have hyin := fun k => dctY_in s h1 h2 x k hx32
  have hlist := fun zb zc w hT hzl hz => direct_list s h2 (dctZ s x) (2 ^ s) rfl (dctZ_len s x) (fun j hj => by
    rw [dctZ_at s x j hj]
    have := dctPair_small (2 ^ (s + 1)) x j hx32
    unfold small at this
    unfold In64
    omega) zb zc w hT hzl hz
  have hza := dctZ_at s x
  have hyd : ∀ k, dctY s x k = wmul (sumTo s (dctZ s x) k (2 ^ s)) (turnF ((k * 128 / 2 ^ (s + 1) : Nat) : Int)) := fun k => rfl
  obtain ⟨n, hn⟩ : ∃ n : Nat, 2 ^ (s + 1) = n := ⟨_, rfl⟩
  obtain ⟨h, hh⟩ : ∃ h : Nat, 2 ^ s = h := ⟨_, rfl⟩
  have hnh : n = h + h := by rw [← hn, ← hh, Nat.pow_succ]; omega
  have hn8 : 8 ≤ n ∧ n ≤ 32 := by
    rcases dct_s s h1 h2 with rfl | rfl | rfl <;> (rw [← hn]; decide)
  rw [hn] at hx hth hpa hput hpt hpl hza ⊢
  rw [hh] at hpa hput hpt hpl hlist hza
  simp only [hn, hh] at hyd
  unfold pairAgg at hpa hput
  unfold bigAgg at hput
  have tu := turn_any
  unfold pairAgg at tu
  have HTH := Lib.hid hth
  have HPA := Lib.hid hpa
  have HPU := Lib.hid hput
  have HPT := Lib.hid hpt
  have HPL := Lib.hid hpl
  have HYI := Lib.hid hyin
  have HLI := Lib.hid hlist
  have HZA := Lib.hid hza
  have HYD := Lib.hid hyd
  have HTU := Lib.hid tu
  have HC := Lib.hid hT
  have HX := Lib.hid (fun i hi => And.intro (hx i hi) (hx32 i))
  have hdiv : (n : Int) / 2 = (h : Int) := by omega
  have HDIV := Lib.hid hdiv
  have HNH := Lib.hid hnh
  have hh2 : h ≤ 16 ∧ 4 ≤ h := by omega
  clear hnh hth hpa hput hpt hpl hyin hlist hza hyd tu hT hx hx32 hn hh hdiv
  go_enter Tryd.func25, Tryd.ntmps25
  go_wp2_with fail
  refine (HTH.out _).mono ?_
  rintro e w1 ⟨rfl, hb1⟩
  have HB1 := Lib.hid hb1
  clear hb1
  go_wp2_with fail
  rw [HDIV.out]
  go_loopw [16, 4] (fun cnt v wr => ∃ k : Nat, k ≤ h ∧ cnt = .int .i64 k ∧ wr.ownsRow w.heap.size 49 2 v k (((List.range k).map (dctPair n x)).flatMap pairCells) ∧ Below w.heap.size w wr) (fun cnt _ _ => h - (intOf cnt).toNat)
  case atStart => exact ⟨0, by omega, rfl, World.ownsRow_nil _ _ _ _, HB1.out⟩
  case round =>
    clear HB1
    obtain ⟨k, hk, rfl, hown, hbel⟩ := hrel
    obtain ⟨wo, rfl⟩ : ∃ wo : World, wo = wr := ⟨_, rfl⟩
    have HBE := Lib.hid hbel
    have HOW := Lib.hid hown
    clear hown hbel
    by_cases hlt : k < h
    · have hlt' : (k : Int) < h := by omega
      have hcall := HPA.out wo (HC.out.below HBE.out) (Nat.lt_of_lt_of_le hb HBE.out.size) (fun i hi => ⟨(cell_blk (HBE.out.block b hb) _).trans (HX.out i hi).1, (HX.out i hi).2⟩) k hlt
      have HCA := Lib.hid hcall
      clear hcall
      go_wp2_with fail
      refine HCA.out.mono ?_
      rintro e w2 ⟨rfl, hb2⟩
      have hown' := ownsRow_below HOW.out hb2
      have hB2 := HBE.out.trans (hb2.mono HBE.out.size)
      have hs2 := hB2.size
      have HB2 := Lib.hid hB2
      clear hB2 hb2
      go_wp2_with (at_builtin; refine wpList_append_one rfl _ _ 32 rfl w.heap.size 49 _ 2 16 Tryd.underlying32 pairInfo rfl (by decide) _ k _ rfl hown' _ [_, _] rfl ?hg rfl ?h1 ?h63 ?hby ?hba ?_; (case hg => rfl); (case h1 => simp [Value.oneCell']; done); (case h63 => exact maxLen_le (by omega)); (case hby => omega); (case hba => omega); intro v' w3 hown3 hbel3 _ _)
      refine ⟨⟨k + 1, by omega, by go_num, by rw [zrow]; exact hown3, HB2.out.trans hbel3⟩, by simp only [intOf]; omega⟩
    · obtain rfl : h = k := by omega
      have hlt' : ¬ (h : Int) < h := by omega
      go_wp2_with (at_make; refine make_block _ rfl _ _ _ rfl 21 (.int .i32 0) 1 4 (by kernel_rfl) (by kernel_rfl) n rfl rfl (by omega) (by omega) (fun _ => .i32) i32_zero ?_)
      obtain ⟨zb, zc, rfl, hzw, hzl⟩ := own_form HOW.out (by omega)
      have hzc : ∀ j, j < h → wo.cell? ⟨zb, j * 2, none⟩ = some (.int .i64 ((dctZ s x).getD j (0, 0)).1) ∧ wo.cell? ⟨zb, j * 2 + 1, none⟩ = some (.int .i64 ((dctZ s x).getD j (0, 0)).2) := fun j hj => by
        rw [HZA.out j hj]
        have e := fun i u hi hu => HOW.out.cells (g := zb) rfl (j * 2 + i) u ((zrow_at (dctPair n x) h j i hj hi).trans hu)
        have e0 := e 0 _ (by decide) rfl
        have e1 := e 1 _ (by decide) rfl
        rw [Addr.add_lit, Nat.zero_add] at e0 e1
        exact ⟨e0, e1⟩
      have hWb : Below wo.heap.size wo (wo.alloc (.cells (ag (fun _ => .i32) n fun _ => 0) 21)) := by (repeat' (first | (with_reducible exact Below.refl _ _) | (with_reducible assumption) | (with_reducible refine Below.alloc ?_ ?_ _) | (with_reducible refine below_grew ?_ ?_ _) | (with_reducible refine Below.setCell ?_ ?_ _) | (with_reducible refine Below.drew ?_) | (with_reducible refine below_drewN ?_ _) | omega | (simp; done) | (simp; omega)))
      have hdir := HLI.out zb zc _ (HC.out.below (HBE.out.trans (hWb.mono HBE.out.size))) (Nat.lt_of_lt_of_le hzl hWb.size) (fun j hj => ⟨(cell_blk (hWb.block zb hzl) _).trans (hzc j hj).1, (cell_blk (hWb.block zb hzl) _).trans (hzc j hj).2⟩)
      have HDIR := Lib.hid hdir
      clear hdir hzc hWb
      obtain ⟨g, hg⟩ : ∃ g, wo.heap.size = g := ⟨_, rfl⟩
      have hgw : w.heap.size ≤ g := by have := HBE.out.size; omega
      have hR0 : R32 g n n 21 (putTo s x 0) (wo.alloc (.cells (ag (fun _ => .i32) n fun _ => 0) 21)) := by
        rw [← hg]
        refine (R32.of_bx (f := fun _ => 0) (alloc_at _ _)).ext (fun i _ => ?_)
        unfold putTo
        (repeat' split) <;> first | rfl | omega
      refine HDIR.out.mono ?_
      rintro e w3 ⟨db, dc, rfl, hdg0, hdl, hd3, hb3⟩
      have hdg : db ≠ g := by simp at hdg0; omega
      clear hdg0
      have HD3 := Lib.hid hd3
      have HR3 := Lib.hid (hR0.keep hb3)
      have hW3 : Below w.heap.size w w3 := by
        have h0 : Below w.heap.size w (wo.alloc (.cells (ag (fun _ => .i32) n fun _ => 0) 21)) := by have := HBE.out; have := HBE.out.size; (repeat' (first | (with_reducible exact Below.refl _ _) | (with_reducible assumption) | (with_reducible refine Below.alloc ?_ ?_ _) | (with_reducible refine below_grew ?_ ?_ _) | (with_reducible refine Below.setCell ?_ ?_ _) | (with_reducible refine Below.drew ?_) | (with_reducible refine below_drewN ?_ _) | omega | (simp; done) | (simp; omega)))
        exact h0.trans (hb3.mono h0.size)
      have HW3 := Lib.hid hW3
      clear hd3 hR0 hb3 hW3 HDIR HOW HBE
      rw [hg]
      clear hg
      go_wp2_with fail
      go_loopw [31] (fun cnt wr => ∃ k : Nat, k ≤ h ∧ cnt = .int .i64 k ∧ R32 g n n 21 (putTo s x k) wr ∧ Upd g w3 wr) (fun cnt _ => h - (intOf cnt).toNat)
      case atStart => exact ⟨0, by omega, rfl, HR3.out, Upd.refl _ _⟩
      case round =>
        obtain ⟨k, hk, rfl, hRr, hu⟩ := hrel
        by_cases hlt : k < h
        · have hlt' : (k : Int) < h := by omega
          have hk0 : (0 : Int) ≤ k := by omega
          have hd := HD3.out k hlt
          obtain ⟨S, hS⟩ : ∃ S, sumTo s (dctZ s x) k h = S := ⟨_, rfl⟩
          rw [hS] at hd
          have hydk := HYD.out k
          have hyk := HYI.out k
          obtain ⟨q, hq⟩ : ∃ q : Nat, k * 128 / n = q := ⟨_, rfl⟩
          have hqq : (k : Int) * 128 / (n : Int) = (q : Int) := by rw [← hq]; simp
          rw [hS, hq] at hydk
          obtain ⟨tu, htu⟩ : ∃ tu, turnF (q : Int) = tu := ⟨_, rfl⟩
          have hts := turnF_small (q : Int)
          rw [htu] at hydk hts
          have hcall := HTU.out (q : Int)
          rw [htu] at hcall
          have h64 : In64 tu.1 ∧ In64 tu.2 := by unfold small at hts; unfold In64; omega
          have d0 := (cell_blk (hu.block db hdl hdg) _).trans (hd 0 _ rfl)
          have d1 := (cell_blk (hu.block db hdl hdg) _).trans (hd 1 _ rfl)
          have d2 := (cell_blk (hu.block db hdl hdg) _).trans (hd 2 _ rfl)
          have d3 := (cell_blk (hu.block db hdl hdg) _).trans (hd 3 _ rfl)
          simp only [Nat.add_zero] at d0 d1 d2 d3
          have hdbl : db < wr.heap.size := Nat.lt_of_lt_of_le hdl hu.size
          have hgl := hRr.lt
          have HQQ := Lib.hid hqq
          have HUR := Lib.hid hu
          have HRR := Lib.hid hRr
          have HYK := Lib.hid hydk
          have HYN := Lib.hid hyk
          have HTC := Lib.hid hcall
          have H64 := Lib.hid h64
          clear hd hS hydk hyk hq hqq htu hts hcall h64 hu hRr
          go_upto_region 14 with fail
          refine cut_world (fun Y => Below wr.heap.size wr Y ∧ Y.heap[wr.heap.size]? = some (.cells #[.int .i64 (accHi S.1), .int .u64 (accLo S.1), .int .i64 (accHi S.2), .int .u64 (accLo S.2)] BigT (0, 0))) ⟨by (repeat' (first | (with_reducible exact Below.refl _ _) | (with_reducible assumption) | (with_reducible refine Below.alloc ?_ ?_ _) | (with_reducible refine below_grew ?_ ?_ _) | (with_reducible refine Below.setCell ?_ ?_ _) | (with_reducible refine Below.drew ?_) | (with_reducible refine below_drewN ?_ _) | omega | (simp; done) | (simp; omega))), alloc_at _ _⟩ ?_
          rintro Y ⟨hbY, hcY⟩
          have HBY := Lib.hid hbY
          obtain ⟨k1, k2, k3⟩ := block_facts hcY
          have y0 := k1 0
          have y1 := k1 1
          have y2 := k1 2
          have y3 := k1 3
          simp only [List.getElem?_toArray, List.getElem?_cons_zero, List.getElem?_cons_succ] at y0 y1 y2 y3
          have hTY : CosW Y := HC.out.below ((HW3.out.trans ⟨HUR.out.os, HUR.out.tape, HUR.out.output, HUR.out.size, fun i hi => HUR.out.block i (by have := HW3.out.size; omega) (by omega)⟩).trans (hbY.mono (by have := HW3.out.size; have := HUR.out.size; omega)))
          have HTY := Lib.hid hTY
          have HUY := Lib.hid (HUR.out.trans (Upd.of_below hbY))
          have hRY := HRR.out.keep hbY
          have HRY := Lib.hid hRY
          have hgl2 := hRY.lt
          clear hRY
          generalize wr.heap.size = bb at *
          clear k1 k2 hbY hcY d0 d1 d2 d3 hTY
          have wk : ((k : Int) * 128 + 9223372036854775808) % 18446744073709551616 - 9223372036854775808 = (k : Int) * 128 := by omega
          have hn0 : ¬ n = 0 := by omega
          refine wp_region_inv [] (fun W => Below Y.heap.size Y W) (fun W W' => Below W.heap.size W W') 8 (by kernel_rfl) (by kernel_rfl) (by kernel_rfl) ((Below.refl _ _).drew) (fun W W' h h' => h.trans (h'.mono h.size)) (fun _ _ h => h.size) ?_
          simp only [List.take_succ_cons, List.take_zero, List.drop_succ_cons, List.drop_zero]
          refine wpInv_det (by kernel_rfl) (by kernel_rfl) ?_
          apply Exists.intro
          refine ⟨?_, ?_, ?_⟩
          · intro U W hC hH
            have hc1 := (bcell hC).1
            have hf1 := (bcell hC).2
            simp only [HypsU, predsOf, Region.binds, List.filterMap_cons, List.filterMap_nil, if_true, List.nil_append, List.cons_append, List.getD_cons_zero, List.getD_cons_succ] at hH
            simp only [fillPuts, Act.put, List.setIfInBounds_toArray, List.set_cons_zero, List.set_cons_succ, Nat.reduceAdd]
            go_wp2_with fail
            refine ⟨rfl, rfl, by (repeat' (first | (with_reducible exact Below.refl _ _) | (with_reducible assumption) | (with_reducible refine Below.alloc ?_ ?_ _) | (with_reducible refine below_grew ?_ ?_ _) | (with_reducible refine Below.setCell ?_ ?_ _) | (with_reducible refine Below.drew ?_) | (with_reducible refine below_drewN ?_ _) | omega | (simp; done) | (simp; omega))), ?_⟩
            conv => lhs; whnf
            try rfl
          · exact fun _ => rfl
          simp only [List.nil_append, List.cons_append, Nat.reduceAdd]
          refine wpInv_det (by kernel_rfl) (by kernel_rfl) ?_
          apply Exists.intro
          refine ⟨?_, ?_, ?_⟩
          · intro U W hC hH
            have hc1 := (bcell hC).1
            have hf1 := (bcell hC).2
            simp only [HypsU, predsOf, Region.binds, List.filterMap_cons, List.filterMap_nil, if_true, List.nil_append, List.cons_append, List.getD_cons_zero, List.getD_cons_succ] at hH
            simp only [fillPuts, Act.put, List.setIfInBounds_toArray, List.set_cons_zero, List.set_cons_succ, Nat.reduceAdd]
            go_wp2_with fail
            refine ⟨rfl, rfl, by (repeat' (first | (with_reducible exact Below.refl _ _) | (with_reducible assumption) | (with_reducible refine Below.alloc ?_ ?_ _) | (with_reducible refine below_grew ?_ ?_ _) | (with_reducible refine Below.setCell ?_ ?_ _) | (with_reducible refine Below.drew ?_) | (with_reducible refine below_drewN ?_ _) | omega | (simp; done) | (simp; omega))), ?_⟩
            conv => lhs; whnf
            try rfl
          · exact fun _ => rfl
          simp only [List.nil_append, List.cons_append, Nat.reduceAdd]
          refine wpInv_det (by kernel_rfl) (by kernel_rfl) ?_
          apply Exists.intro
          refine ⟨?_, ?_, ?_⟩
          · intro U W hC hH
            have hc1 := (bcell hC).1
            have hf1 := (bcell hC).2
            simp only [HypsU, predsOf, Region.binds, List.filterMap_cons, List.filterMap_nil, if_true, List.nil_append, List.cons_append, List.getD_cons_zero, List.getD_cons_succ] at hH
            simp only [fillPuts, Act.put, List.setIfInBounds_toArray, List.set_cons_zero, List.set_cons_succ, Nat.reduceAdd]
            go_wp2_with fail
            refine ⟨rfl, rfl, by (repeat' (first | (with_reducible exact Below.refl _ _) | (with_reducible assumption) | (with_reducible refine Below.alloc ?_ ?_ _) | (with_reducible refine below_grew ?_ ?_ _) | (with_reducible refine Below.setCell ?_ ?_ _) | (with_reducible refine Below.drew ?_) | (with_reducible refine below_drewN ?_ _) | omega | (simp; done) | (simp; omega))), ?_⟩
            conv => lhs; whnf
            try rfl
          · exact fun _ => rfl
          simp only [List.nil_append, List.cons_append, Nat.reduceAdd]
          refine wpInv_det (by kernel_rfl) (by kernel_rfl) ?_
          apply Exists.intro
          refine ⟨?_, ?_, ?_⟩
          · intro U W hC hH
            have hc1 := (bcell hC).1
            have hf1 := (bcell hC).2
            simp only [HypsU, predsOf, Region.binds, List.filterMap_cons, List.filterMap_nil, if_true, List.nil_append, List.cons_append, List.getD_cons_zero, List.getD_cons_succ] at hH
            simp only [fillPuts, Act.put, List.setIfInBounds_toArray, List.set_cons_zero, List.set_cons_succ, Nat.reduceAdd]
            go_wp2_with fail
            refine ⟨rfl, rfl, by (repeat' (first | (with_reducible exact Below.refl _ _) | (with_reducible assumption) | (with_reducible refine Below.alloc ?_ ?_ _) | (with_reducible refine below_grew ?_ ?_ _) | (with_reducible refine Below.setCell ?_ ?_ _) | (with_reducible refine Below.drew ?_) | (with_reducible refine below_drewN ?_ _) | omega | (simp; done) | (simp; omega))), ?_⟩
            conv => lhs; whnf
            try rfl
          · exact fun _ => rfl
          simp only [List.nil_append, List.cons_append, Nat.reduceAdd]
          refine wpInv_det (by kernel_rfl) (by kernel_rfl) ?_
          apply Exists.intro
          refine ⟨?_, ?_, ?_⟩
          · intro U W hC hH
            have hc1 := (bcell hC).1
            have hf1 := (bcell hC).2
            simp only [HypsU, predsOf, Region.binds, List.filterMap_cons, List.filterMap_nil, if_true, List.nil_append, List.cons_append, List.getD_cons_zero, List.getD_cons_succ] at hH
            simp only [fillPuts, Act.put, List.setIfInBounds_toArray, List.set_cons_zero, List.set_cons_succ, Nat.reduceAdd]
            go_wp2_with fail
            refine ⟨rfl, rfl, by (repeat' (first | (with_reducible exact Below.refl _ _) | (with_reducible assumption) | (with_reducible refine Below.alloc ?_ ?_ _) | (with_reducible refine below_grew ?_ ?_ _) | (with_reducible refine Below.setCell ?_ ?_ _) | (with_reducible refine Below.drew ?_) | (with_reducible refine below_drewN ?_ _) | omega | (simp; done) | (simp; omega))), ?_⟩
            conv => lhs; whnf
            try rfl
          · exact fun _ => rfl
          simp only [List.nil_append, List.cons_append, Nat.reduceAdd]
          refine wpInv_det (by kernel_rfl) (by kernel_rfl) ?_
          apply Exists.intro
          refine ⟨?_, ?_, ?_⟩
          · intro U W hC hH
            have hc1 := (bcell hC).1
            have hf1 := (bcell hC).2
            simp only [HypsU, predsOf, Region.binds, List.filterMap_cons, List.filterMap_nil, if_true, List.nil_append, List.cons_append, List.getD_cons_zero, List.getD_cons_succ] at hH
            simp only [fillPuts, Act.put, List.setIfInBounds_toArray, List.set_cons_zero, List.set_cons_succ, Nat.reduceAdd]
            go_wp2_with fail
            refine ⟨rfl, rfl, by (repeat' (first | (with_reducible exact Below.refl _ _) | (with_reducible assumption) | (with_reducible refine Below.alloc ?_ ?_ _) | (with_reducible refine below_grew ?_ ?_ _) | (with_reducible refine Below.setCell ?_ ?_ _) | (with_reducible refine Below.drew ?_) | (with_reducible refine below_drewN ?_ _) | omega | (simp; done) | (simp; omega))), ?_⟩
            conv => lhs; whnf
            try rfl
          · exact fun _ => rfl
          simp only [List.nil_append, List.cons_append, Nat.reduceAdd]
          refine wpInv_det (by kernel_rfl) (by kernel_rfl) ?_
          apply Exists.intro
          refine ⟨?_, ?_, ?_⟩
          · intro U W hC hH
            have hc1 := (bcell hC).1
            have hf1 := (bcell hC).2
            simp only [HypsU, predsOf, Region.binds, List.filterMap_cons, List.filterMap_nil, if_true, List.nil_append, List.cons_append, List.getD_cons_zero, List.getD_cons_succ] at hH
            simp only [fillPuts, Act.put, List.setIfInBounds_toArray, List.set_cons_zero, List.set_cons_succ, Nat.reduceAdd]
            go_wp2_with fail
            refine ⟨rfl, rfl, by (repeat' (first | (with_reducible exact Below.refl _ _) | (with_reducible assumption) | (with_reducible refine Below.alloc ?_ ?_ _) | (with_reducible refine below_grew ?_ ?_ _) | (with_reducible refine Below.setCell ?_ ?_ _) | (with_reducible refine Below.drew ?_) | (with_reducible refine below_drewN ?_ _) | omega | (simp; done) | (simp; omega))), ?_⟩
            conv => lhs; whnf
            try rfl
          · exact fun _ => rfl
          simp only [List.nil_append, List.cons_append, Nat.reduceAdd]
          refine wpInv_det (by kernel_rfl) (by kernel_rfl) ?_
          apply Exists.intro
          refine ⟨?_, ?_, ?_⟩
          · intro U W hC hH
            have hc1 := (bcell hC).1
            have hf1 := (bcell hC).2
            simp only [HypsU, predsOf, Region.binds, List.filterMap_cons, List.filterMap_nil, if_true, List.nil_append, List.cons_append, List.getD_cons_zero, List.getD_cons_succ] at hH
            simp only [fillPuts, Act.put, List.setIfInBounds_toArray, List.set_cons_zero, List.set_cons_succ, Nat.reduceAdd]
            go_wp2_with fail; rw [HQQ.out]; refine (HTC.out _ (HTY.out.below hC)).mono ?_; rintro e w' ⟨rfl, hb1⟩; obtain ⟨x1, rfl⟩ := below_as_grew hb1; clear hb1; go_wp2_with fail
            refine ⟨rfl, rfl, by (repeat' (first | (with_reducible exact Below.refl _ _) | (with_reducible assumption) | (with_reducible refine Below.alloc ?_ ?_ _) | (with_reducible refine below_grew ?_ ?_ _) | (with_reducible refine Below.setCell ?_ ?_ _) | (with_reducible refine Below.drew ?_) | (with_reducible refine below_drewN ?_ _) | omega | (simp; done) | (simp; omega))), ?_⟩
            conv => lhs; whnf
            try rfl
          · exact fun _ => rfl
          simp only [List.nil_append, List.cons_append, Nat.reduceAdd]
          simp only [List.nil_append, List.cons_append, Nat.reduceAdd, fillPuts, Act.put, List.setIfInBounds_toArray, List.set_cons_zero, List.set_cons_succ]
          rintro U W hC ⟨h0, h1, h2, h3, h4, h5, h6, h7, -⟩ -
          simp only [h0, h1, h2, h3, h4, h5, h6, h7]
          clear h0 h1 h2 h3 h4 h5 h6 h7
          have hcall := HPU.out g (putTo s x k) S tu W (HRY.out.keep hC) H64.out (by rw [← HYK.out]; exact HYN.out.1) (by rw [← HYK.out]; exact HYN.out.2) k hlt
          rw [← HYK.out] at hcall
          have HCA := Lib.hid hcall
          have HUW := Lib.hid (HUY.out.trans (Upd.of_below hC))
          clear hcall hC
          go_wp2_with (go_at_call 67; refine HCA.out.mono ?_; rintro e w4 ⟨rfl, hu4, hr4⟩; have HU4 := Lib.hid hu4; have HR4 := Lib.hid hr4; clear hu4 hr4)
          exact ⟨⟨k + 1, by omega, by go_num, HR4.out.ext (fun i hi => HPT.out k hlt i hi), HUW.out.trans HU4.out⟩, by simp only [intOf]; omega⟩
        · obtain rfl : h = k := by omega
          have hlt' : ¬ (h : Int) < h := by omega
          have HUR := Lib.hid hu
          have HRR := Lib.hid hRr
          clear hu hRr
          go_wp2_with fail
          go_ret
          exact ⟨g, rfl, hgw, (HRR.out.ext (fun i hi => HPL.out i hi)).to_bx, HW3.out.trans ⟨HUR.out.os, HUR.out.tape, HUR.out.output, HUR.out.size, fun i hi => HUR.out.block i (by have := HW3.out.size; omega) (by omega)⟩⟩
end Go.Proofs.YtcibajleknhklaaDoor
end

section
namespace Go.Proofs.YtcibajleknhklaaDoor
open Go.RowKit Go.BigFrame Go.Proofs.YtcibajleknhklaaDoorW.PrintWords Go.Proofs.YtcibajleknhklaaDoorW.PrintLast Go.Proofs.YtcibajleknhklaaDoorW.PrintMore
set_option linter.unusedSimpArgs false
set_option linter.unusedVariables false
abbrev k32 : Nat → IntKind := fun _ => .i32
end Go.Proofs.YtcibajleknhklaaDoor
end

section
namespace Go.Proofs.YtcibajleknhklaaDoor
open Go.RowKit Go.BigFrame Go.Proofs.YtcibajleknhklaaDoorW.PrintWords Go.Proofs.YtcibajleknhklaaDoorW.PrintLast Go.Proofs.YtcibajleknhklaaDoorW.PrintMore
set_option linter.unusedSimpArgs false
set_option linter.unusedVariables false
def turns2 (n k : Nat) : List Value := ((List.range k).map fun i : Nat => turnF ((i : Int) * 128 / (n : Int))).flatMap pairCells
theorem PlanR.low {pb ob s B : Nat} {tv : Value} {w w' : World} (h : PlanR pb ob tv s w) (hb : Below B w w') (h1 : pb < B) (h2 : ob < B) (h3 : ∀ k, tv.ownBlock = some k → k < B) : PlanR pb ob tv s w' := by
  refine ⟨h.ne, (hb.block pb h1).trans h.st, (hb.block ob h2).trans h.ord, ?_⟩
  obtain ⟨a, b | ⟨g', cap, cur, b1, b2, b3, b4⟩⟩ := h.own
  · exact ⟨a, .inl b⟩
  · exact ⟨a, .inr ⟨g', cap, cur, b1, b2, (hb.block g' (h3 g' (by rw [b1]; rfl))).trans b3, b4⟩⟩
abbrev DctT := 163
/-- What makes samples: its struct at db, its room at zb and gb, its plan, the turns behind it. -/
structure DctR (db zb gb pb ob : Nat) (tvp tv : Value) (s : Nat) (w : World) : Prop where
  st : w.heap[db]? = some (.cells #[.pointer (some ⟨pb, 0, none⟩), .slice (some ⟨zb, 0, none⟩) (2 ^ s) (2 ^ s), .slice (some ⟨gb, 0, none⟩) (2 ^ s) (2 ^ s), tv] DctT (0, 0))
  z : ∃ f, Bx zb 49 kI (2 ^ s * 2) f w
  g : ∃ X, BigW gb (2 ^ s) X w
  plan : PlanR pb ob tvp s w
  own : w.ownsRow 0 49 2 tv (2 ^ s) (turns2 (2 ^ (s + 1)) (2 ^ s))
  a1 : db ≠ zb
  a2 : db ≠ gb
  a3 : zb ≠ gb
  a4 : pb ≠ zb ∧ pb ≠ gb ∧ ob ≠ zb ∧ ob ≠ gb
  a5 : some zb ≠ tvp.ownBlock ∧ some gb ≠ tvp.ownBlock
  a6 : some zb ≠ tv.ownBlock ∧ some gb ≠ tv.ownBlock
end Go.Proofs.YtcibajleknhklaaDoor
end

section
namespace Go.Proofs.YtcibajleknhklaaDoor
open Go.RowKit Go.BigFrame Go.Proofs.YtcibajleknhklaaDoorW.PrintWords Go.Proofs.YtcibajleknhklaaDoorW.PrintLast Go.Proofs.YtcibajleknhklaaDoorW.PrintMore
set_option linter.unusedSimpArgs false
set_option linter.unusedVariables false
/-- Some blocks have been written, and blocks have been made. -/
structure Upd3 (a b c : Nat) (w w' : World) : Prop where
  os : w'.os = w.os
  tape : w'.tape = w.tape
  output : w'.output = w.output
  size : w.heap.size ≤ w'.heap.size
  block : ∀ k, k < w.heap.size → k ≠ a → k ≠ b → k ≠ c → w'.heap[k]? = w.heap[k]?
theorem Upd3.refl (a b c : Nat) (w : World) : Upd3 a b c w w := ⟨rfl, rfl, rfl, Nat.le_refl _, fun _ _ _ _ _ => rfl⟩
theorem Upd3.trans {a b c : Nat} {w w1 w2 : World} (h : Upd3 a b c w w1) (k : Upd3 a b c w1 w2) : Upd3 a b c w w2 :=
  ⟨k.os.trans h.os, k.tape.trans h.tape, k.output.trans h.output, Nat.le_trans h.size k.size, fun i hi h1 h2 h3 => (k.block i (Nat.lt_of_lt_of_le hi h.size) h1 h2 h3).trans (h.block i hi h1 h2 h3)⟩
theorem Upd3.of {a b c : Nat} {w w1 : World} {x : Nat} (h : Upd x w w1) (hx : x = a ∨ x = b ∨ x = c) : Upd3 a b c w w1 :=
  ⟨h.os, h.tape, h.output, h.size, fun i hi h1 h2 h3 => h.block i hi (by rcases hx with e | e | e <;> omega)⟩
theorem Upd3.of_below {a b c : Nat} {w w1 : World} (h : Below w.heap.size w w1) : Upd3 a b c w w1 := ⟨h.os, h.tape, h.output, h.size, fun k hk _ _ _ => h.block k hk⟩
theorem Upd3.below {a b c B : Nat} {w0 w w1 : World} (h : Upd3 a b c w w1) (hb : Below B w0 w) (hB : B ≤ w.heap.size) (h1 : B ≤ a) (h2 : B ≤ b) (h3 : B ≤ c) : Below B w0 w1 :=
  hb.trans ⟨h.os, h.tape, h.output, h.size, fun k hk => h.block k (by omega) (by omega) (by omega) (by omega)⟩
end Go.Proofs.YtcibajleknhklaaDoor
end

section
namespace Go.Proofs.YtcibajleknhklaaDoor
open Go.RowKit Go.BigFrame Go.Proofs.YtcibajleknhklaaDoorW.PrintWords Go.Proofs.YtcibajleknhklaaDoorW.PrintLast Go.Proofs.YtcibajleknhklaaDoorW.PrintMore
open PDctAlike RDctAlike
set_option linter.unusedSimpArgs false
set_option linter.unusedVariables false
def lst (n : Nat) (f : Nat → Int) : List Int := (List.range n).map f
theorem lst_len (n : Nat) (f : Nat → Int) : (lst n f).length = n := by simp [lst]
theorem lst_at (n : Nat) (f : Nat → Int) (i : Nat) : (lst n f).getD i 0 = if i < n then f i else 0 := by
  unfold lst
  rw [List.getD_eq_getElem?_getD]
  by_cases h : i < n
  · rw [if_pos h]; simp [h]
  · rw [if_neg h]; simp [h]
theorem DctR.keep {db zb gb pb ob s : Nat} {tvp tv : Value} {w w' : World} (h : DctR db zb gb pb ob tvp tv s w) (hb : Below w.heap.size w w') : DctR db zb gb pb ob tvp tv s w' := by
  obtain ⟨dst, ⟨f0, dz⟩, ⟨X0, dg⟩, dpl, down, a1, a2, a3, a4, a5, a6⟩ := h
  exact ⟨(hb.block db (block_facts dst).2.2).trans dst, ⟨f0, dz.keep hb⟩, ⟨X0, dg.keep hb⟩, dpl.keep hb, ownsRow_below down hb, a1, a2, a3, a4, a5, a6⟩
theorem DctR.lt {db zb gb pb ob s : Nat} {tvp tv : Value} {w : World} (h : DctR db zb gb pb ob tvp tv s w) : db < w.heap.size ∧ zb < w.heap.size ∧ gb < w.heap.size ∧ pb < w.heap.size ∧ ob < w.heap.size ∧ (∀ k, tvp.ownBlock = some k → k < w.heap.size) ∧ (∀ k, tv.ownBlock = some k → k < w.heap.size) := by
  obtain ⟨dst, ⟨f0, dz⟩, ⟨X0, dg⟩, dpl, down, -⟩ := h
  exact ⟨(block_facts dst).2.2, (block_facts dz).2.2, (block_facts dg).2.2, (block_facts dpl.st).2.2, (block_facts dpl.ord).2.2, fun k hk => (own_lt' dpl.own k hk).2, fun k hk => (own_lt' down k hk).2⟩
end Go.Proofs.YtcibajleknhklaaDoor
end

section
namespace Go.Proofs.YtcibajleknhklaaDoor
open Go.RowKit Go.Proofs.YtcibajleknhklaaDoorW.PrintWords Go.Proofs.YtcibajleknhklaaDoorW.PrintLast Go.Proofs.YtcibajleknhklaaDoorW.PrintMore
open PStateTells RStateTells
set_option linter.unusedSimpArgs false
set_option linter.unusedVariables false
def szOf (s : Int) : Nat := s.toNat + 2
theorem szOf_pow (s : Int) (hs : 0 ≤ s ∧ s ≤ 2) : 2 ^ (szOf s + 1) = nOf s := by
  rcases (show s = 0 ∨ s = 1 ∨ s = 2 by omega) with h | h | h <;> subst h <;> rfl
theorem szOf_in (s : Int) (hs : 0 ≤ s ∧ s ≤ 2) : 2 ≤ szOf s ∧ szOf s ≤ 4 := by unfold szOf; omega
/-- A channel's samples. -/
def yF (s : Int) (xs : Nat → Int) (c : Nat) : Nat → Int := dctF (szOf s) (fun i => xs (c * 32 + i))
def tailL (st : Nat → Int) (n c : Nat) : List Int := lst n (fun i => st (10 + c * 32 + i))
def lapL (s : Int) (xs st : Nat → Int) (c : Nat) : List Int × List Int := (lap_Plain.f 200 (lst (nOf s) (yF s xs c)) (tailL st (nOf s) c)).getD ([], [])
def emL (s : Int) (xs st : Nat → Int) (c : Nat) : List Int × Int := (emph_Plain.f 100002 (lapL s xs st c).1 (st (138 + c))).getD ([], 0)
theorem nOf_in (s : Int) : nOf s = 8 ∨ nOf s = 16 ∨ nOf s = 32 := by unfold nOf; split <;> (try split) <;> omega
theorem lapL_some (s : Int) (xs st : Nat → Int) (c : Nat) : lap_Plain.f 200 (lst (nOf s) (yF s xs c)) (tailL st (nOf s) c) = some ((lapL s xs st c).1, (lapL s xs st c).2) ∧ (lapL s xs st c).1.length = nOf s ∧ (lapL s xs st c).2.length = nOf s ∧
    okL (-8388608) 8388607 (lapL s xs st c).1 ∧ okL (-2147483648) 2147483647 (lapL s xs st c).2 := by
  obtain ⟨o, b, h, r⟩ := lap_total (lst (nOf s) (yF s xs c)) (tailL st (nOf s) c) (nOf s) (nOf_in s) (lst_len _ _) (lst_len _ _)
  have e : lapL s xs st c = (o, b) := by unfold lapL; rw [h]; rfl
  rw [e]
  exact ⟨h, r⟩
theorem emL_some (s : Int) (xs st : Nat → Int) (c : Nat) : emph_Plain.f 100002 (lapL s xs st c).1 (st (138 + c)) = some ((emL s xs st c).1, (emL s xs st c).2) ∧ (emL s xs st c).1.length = nOf s ∧ okL (-32768) 32767 (emL s xs st c).1 ∧ (-134217728 ≤ (emL s xs st c).2 ∧ (emL s xs st c).2 ≤ 134217727) := by
  have hl := (lapL_some s xs st c).2.1
  have hn := nOf_in s
  obtain ⟨o, b, h, r1, r2⟩ := emph_total (lapL s xs st c).1 (by omega) (by omega) (st (138 + c))
  have e : emL s xs st c = (o, b) := by unfold emL; rw [h]; rfl
  rw [e]
  exact ⟨h, r1.trans hl, r2⟩
/-- One channel of it. -/
def playC (s : Int) (nb : Nat) (xs e : Nat → Int) (c : Nat) (st : Nat → Int) : Nat → Int := fun j =>
  if 10 + c * 32 ≤ j ∧ j < 10 + c * 32 + nOf s then (lapL s xs st c).2.getD (j - (10 + c * 32)) 0
  else if 74 + c * 32 ≤ j ∧ j < 74 + c * 32 + nOf s then (lapL s xs st c).1.getD (j - (74 + c * 32)) 0
  else if j = 138 + c then (emL s xs st c).2
  else if c * 5 ≤ j ∧ j < c * 5 + nb then e j
  else st j
def playTo (s : Int) (nb : Nat) (xs e st : Nat → Int) : Nat → (Nat → Int)
  | 0 => st
  | c + 1 => playC s nb xs e c (playTo s nb xs e st c)
theorem lst_ext (n : Nat) (f g : Nat → Int) (h : ∀ i, i < n → f i = g i) : lst n f = lst n g := by
  unfold lst
  apply List.map_congr_left
  intro i hi
  exact h i (by simpa using hi)
/-- A channel is not touched ahead of its turn. -/
theorem playC_other (s : Int) (nb : Nat) (xs e st : Nat → Int) (c d : Nat) (hb : nb ≤ 5) (hc : c < 2) (hd : d < 2) (h : c ≠ d) (j : Nat) (hj : (10 + d * 32 ≤ j ∧ j < 42 + d * 32) ∨ (74 + d * 32 ≤ j ∧ j < 106 + d * 32) ∨ j = 138 + d ∨ 140 ≤ j ∨ (d * 5 ≤ j ∧ j < d * 5 + 5)) : playC s nb xs e c st j = st j := by
  have hn := nOf_in s
  unfold playC
  rw [if_neg (by omega), if_neg (by omega), if_neg (by omega), if_neg (by omega)]
theorem playTo_other (s : Int) (nb : Nat) (xs e st : Nat → Int) (d : Nat) (hb : nb ≤ 5) (hd : d < 2) (j : Nat) (hj : (10 + d * 32 ≤ j ∧ j < 42 + d * 32) ∨ (74 + d * 32 ≤ j ∧ j < 106 + d * 32) ∨ j = 138 + d ∨ 140 ≤ j ∨ (d * 5 ≤ j ∧ j < d * 5 + 5)) : ∀ c, c ≤ d → playTo s nb xs e st c j = st j
  | 0, _ => rfl
  | c + 1, h => by
    rw [playTo, playC_other s nb xs e _ c d hb (by omega) hd (by omega) j hj]
    exact playTo_other s nb xs e st d hb hd j hj c (by omega)
theorem playTo_high (s : Int) (nb : Nat) (xs e st : Nat → Int) (hb : nb ≤ 5) (j : Nat) (hj : 140 ≤ j) : ∀ c, c ≤ 2 → playTo s nb xs e st c j = st j
  | 0, _ => rfl
  | c + 1, h => by
    have hn := nOf_in s
    rw [playTo, playC, if_neg (by omega), if_neg (by omega), if_neg (by omega), if_neg (by omega)]
    exact playTo_high s nb xs e st hb j hj c (by omega)
theorem tailL_to (s : Int) (nb : Nat) (xs e st : Nat → Int) (c : Nat) (hb : nb ≤ 5) (hc : c < 2) : tailL (playTo s nb xs e st c) (nOf s) c = tailL st (nOf s) c :=
  lst_ext _ _ _ fun i hi => playTo_other s nb xs e st c hb hc _ (by have := nOf_in s; omega) c (Nat.le_refl _)
theorem lapL_to (s : Int) (nb : Nat) (xs e st : Nat → Int) (c : Nat) (hb : nb ≤ 5) (hc : c < 2) : lapL s xs (playTo s nb xs e st c) c = lapL s xs st c := by
  unfold lapL; rw [tailL_to s nb xs e st c hb hc]
theorem mem_to (s : Int) (nb : Nat) (xs e st : Nat → Int) (c : Nat) (hb : nb ≤ 5) (hc : c < 2) : playTo s nb xs e st c (138 + c) = st (138 + c) :=
  playTo_other s nb xs e st c hb hc _ (by omega) c (Nat.le_refl _)
theorem emL_to (s : Int) (nb : Nat) (xs e st : Nat → Int) (c : Nat) (hb : nb ≤ 5) (hc : c < 2) : emL s xs (playTo s nb xs e st c) c = emL s xs st c := by
  unfold emL; rw [lapL_to s nb xs e st c hb hc, mem_to s nb xs e st c hb hc]
/-- What a frame makes of a state. -/
def playF (s c : Int) (xs e : Nat → Int) (sd : Int) (st : Nat → Int) : Nat → Int := fun j =>
  if j = 140 then sd else if j = 141 then 0 else playTo s (nbOf s) xs e st c.toNat j
def soundsP (s : Int) (xs st : Nat → Int) (c : Nat) : List (List Int) := (List.range c).map fun i => (emL s xs st i).1
theorem soundsP_len (s : Int) (xs st : Nat → Int) (c : Nat) : ∀ x ∈ soundsP s xs st c, x.length = nOf s := by
  intro x hx
  obtain ⟨i, _, rfl⟩ := List.mem_map.1 hx
  exact (emL_some s xs st i).2.1
/-- The block's writes, one on the other. -/
theorem playC_over (s : Int) (nb : Nat) (xs e st : Nat → Int) (k : Nat) (hk : k < 2) (hb : nb ≤ 5) (j : Nat) :
    overF (updI (overF (overF (playTo s nb xs e st k) (10 + k * 32) (lapL s xs st k).2) (74 + k * 32) (lapL s xs st k).1) (138 + k) (emL s xs st k).2) (k * 5) (lst nb (fun i => e (k * 5 + i))) j = playTo s nb xs e st (k + 1) j := by
  have hn := nOf_in s
  have E : playTo s nb xs e st (k + 1) j = playC s nb xs e k (playTo s nb xs e st k) j := rfl
  rw [E, playC, lapL_to s nb xs e st k hb hk, emL_to s nb xs e st k hb hk]
  generalize hP : playTo s nb xs e st k = P
  have l1 := (lapL_some s xs st k).2.1
  have l2 := (lapL_some s xs st k).2.2.1
  generalize (lapL s xs st k).1 = L1 at *
  generalize (lapL s xs st k).2 = L2 at *
  have l3 := lst_len nb (fun i => e (k * 5 + i))
  have l4 : ∀ i, i < nb → (lst nb (fun i => e (k * 5 + i))).getD i 0 = e (k * 5 + i) := fun i hi => by rw [lst_at, if_pos hi]
  generalize lst nb (fun i => e (k * 5 + i)) = L3 at *
  clear E hP
  unfold updI overF
  rw [l1, l2, l3]
  dsimp only
  by_cases h1 : 10 + k * 32 ≤ j ∧ j < 10 + k * 32 + nOf s
  · rw [if_neg (show ¬ (k * 5 ≤ j ∧ j < k * 5 + nb) by omega), if_neg (show ¬ j = 138 + k by omega), if_neg (show ¬ (74 + k * 32 ≤ j ∧ j < 74 + k * 32 + nOf s) by omega), if_pos h1, if_pos h1]
  · by_cases h2 : 74 + k * 32 ≤ j ∧ j < 74 + k * 32 + nOf s
    · rw [if_neg (show ¬ (k * 5 ≤ j ∧ j < k * 5 + nb) by omega), if_neg (show ¬ j = 138 + k by omega), if_pos h2, if_neg h1, if_pos h2]
    · by_cases h3 : j = 138 + k
      · rw [if_neg (show ¬ (k * 5 ≤ j ∧ j < k * 5 + nb) by omega), if_pos h3, if_neg h1, if_neg h2, if_pos h3]
      · rw [if_neg h3, if_neg h3, if_neg h2, if_neg h2, if_neg h1, if_neg h1]
        by_cases h4 : k * 5 ≤ j ∧ j < k * 5 + nb
        · rw [if_pos h4, if_pos h4, l4 _ (by omega), show k * 5 + (j - k * 5) = j from by omega]
        · rw [if_neg h4, if_neg h4]
end Go.Proofs.YtcibajleknhklaaDoor
end

section
namespace Go.Proofs.YtcibajleknhklaaDoor
open Go.RowKit Go.Proofs.YtcibajleknhklaaDoorW.PrintWords
open PStateTells RStateTells
def mixF (l : List (List Int)) (n : Nat) : List Int := ((List.range n).map fun i => l.map fun x => x.getD i 0).flatten
theorem mixF_succ (l : List (List Int)) (n : Nat) : mixF l (n + 1) = mixF l n ++ l.map fun x => x.getD n 0 := by
  unfold mixF
  rw [List.range_succ, List.map_append, List.flatten_append]
  simp
theorem mixF_len (l : List (List Int)) : ∀ n, (mixF l n).length = n * l.length
  | 0 => by simp [mixF]
  | n + 1 => by rw [mixF_succ, List.length_append, mixF_len l n, List.length_map, Nat.add_mul, Nat.one_mul]
theorem drop_map_cons (l : List (List Int)) (i j : Nat) (h : j < l.length) : (l.drop j).map (fun x => x.getD i 0) = (l.getD j []).getD i 0 :: (l.drop (j + 1)).map (fun x => x.getD i 0) := by
  rw [List.drop_eq_getElem_cons h, List.map_cons, List.getD_eq_getElem?_getD (l := l), List.getElem?_eq_getElem h]; rfl
theorem len_at (l : List (List Int)) (n j : Nat) (hl : ∀ x ∈ l, x.length = n) (h : j < l.length) : (l.getD j []).length = n := by
  rw [List.getD_eq_getElem?_getD, List.getElem?_eq_getElem h]
  exact hl _ (List.getElem_mem h)
theorem mix_l1 (l : List (List Int)) (n : Nat) (hl : ∀ x ∈ l, x.length = n) (h2 : l.length ≤ 2) (i : Nat) (hi : i < n) (hn : n ≤ 32) : ∀ (d k j : Nat) (acc : List Int), j + d = l.length → acc.length + d ≤ 1000 →
    state_mix.l1 (k + d + 1) l acc (i : Int) n (i : Int) l (l.length : Int) (j : Int) = state_mix.l0 k l (acc ++ (l.drop j).map fun x => x.getD i 0) n ((i + 1 : Nat) : Int)
  | 0, k, j, acc, h, ha => by
    rw [Nat.add_zero, state_mix.l1, if_neg (by omega), wn_add1 (by omega), List.drop_of_length_le (by omega)]
    simp
  | d + 1, k, j, acc, h, ha => by
    have e : (rd_L1 l (j : Int)) = l.getD j [] := by unfold rd_L1; rw [Int.toNat_natCast]
    have hlen := len_at l n j hl (by omega)
    rw [show k + (d + 1) + 1 = (k + d + 1) + 1 from by omega, state_mix.l1, if_pos (by omega), if_pos (by omega), if_pos (by omega), if_pos (by omega), e, if_pos (by rw [hlen]; omega), if_pos (by omega), rd_nat, wn_add1 (by omega),
      mix_l1 l n hl h2 i hi hn d k (j + 1) _ (by omega) (by simp; omega), drop_map_cons l i j (by omega), List.append_assoc]
    rfl
theorem mix_l0 (l : List (List Int)) (n : Nat) (hl : ∀ x ∈ l, x.length = n) (h2 : l.length ≤ 2) (hn : n ≤ 32) : ∀ (d k i : Nat), i + d = n → 5 * d + 1 ≤ k → state_mix.l0 k l (mixF l i) n (i : Int) = some (mixF l n)
  | 0, k, i, h, hk => by
    obtain ⟨k, rfl⟩ : ∃ m, k = m + 1 := ⟨k - 1, by omega⟩
    rw [state_mix.l0, if_neg (by omega), show i = n from by omega]
  | d + 1, k, i, h, hk => by
    obtain ⟨k, rfl⟩ : ∃ m, k = m + l.length + 1 + 1 := ⟨k - l.length - 2, by omega⟩
    rw [state_mix.l0, if_pos (by omega)]
    have := mix_l1 l n hl h2 i (by omega) hn l.length k 0 (mixF l i) (by omega) (by
      rw [mixF_len]
      have : i * l.length ≤ 32 * 2 := Nat.mul_le_mul (by omega) h2
      omega)
    rw [show ((0 : Nat) : Int) = 0 from rfl] at this
    rw [this, List.drop_zero, ← mixF_succ]
    exact mix_l0 l n hl h2 hn d k (i + 1) (by omega) (by omega)
theorem mix_f (l : List (List Int)) (n : Nat) (hl : ∀ x ∈ l, x.length = n) (h2 : l.length ≤ 2) (hn : n ≤ 32) : state_mix.f 200 l n = some (mixF l n) := mix_l0 l n hl h2 hn n 200 0 (by omega) (by omega)
end Go.Proofs.YtcibajleknhklaaDoor
end

section
namespace Go.Proofs.YtcibajleknhklaaDoor
abbrev St := 97
end Go.Proofs.YtcibajleknhklaaDoor
end

section
namespace Go.Proofs.YtcibajleknhklaaDoor
open Go.RowKit Go.BigFrame
set_option linter.unusedSimpArgs false
abbrev RightP (s c : Int) : Prop := 0 ≤ s ∧ s < 3 ∧ 1 ≤ c ∧ c ≤ 2
def bandsF (s c : Int) : Int := if RightP s c then 3 + s else 0
def widL : List Int := [2, 2, 4, 8, 16]
abbrev WidthW (w : World) : Prop := TabW 1 5 .i64 widL w
theorem WidthW.at {w : World} (h : WidthW w) (j : Int) (h0 : 0 ≤ j) (h1 : j < 5) : w.cell? ⟨1, j.toNat, none⟩ = some (.int .i64 (widL.getD j.toNat 0)) := h.2 j.toNat (by omega)
theorem modeRight (s c : Int) (w : World) : Calls Tryd.prog 86 #[.agg #[.int .i64 s, .int .i64 c]] w fun e w' => e = .returned (.bool (decide (RightP s c))) ∧ Below w.heap.size w w' := by
  by_cases h0 : 0 ≤ s
  · skip
    by_cases h1 : s < 3
    · skip
      by_cases h2 : 1 ≤ c
      · skip
        by_cases h3 : c ≤ 2
        · skip
          go_enter Tryd.func86, Tryd.ntmps86
          go_wp2
          go_ret
          exact ⟨ret_bool (by first | rfl | (simp; done) | (simp; omega)), by (repeat' (first | (with_reducible exact Below.refl _ _) | (with_reducible assumption) | (with_reducible refine Below.alloc ?_ ?_ _) | (with_reducible refine below_grew ?_ ?_ _) | (with_reducible refine Below.setCell ?_ ?_ _) | (with_reducible refine Below.drew ?_) | (with_reducible refine below_drewN ?_ _) | omega | (simp; done) | (simp; omega)))⟩
        · skip
          go_enter Tryd.func86, Tryd.ntmps86
          go_wp2
          go_ret
          exact ⟨ret_bool (by first | rfl | (simp; done) | (simp; omega)), by (repeat' (first | (with_reducible exact Below.refl _ _) | (with_reducible assumption) | (with_reducible refine Below.alloc ?_ ?_ _) | (with_reducible refine below_grew ?_ ?_ _) | (with_reducible refine Below.setCell ?_ ?_ _) | (with_reducible refine Below.drew ?_) | (with_reducible refine below_drewN ?_ _) | omega | (simp; done) | (simp; omega)))⟩
      · skip
        go_enter Tryd.func86, Tryd.ntmps86
        go_wp2
        go_ret
        exact ⟨ret_bool (by first | rfl | (simp; done) | (simp; omega)), by (repeat' (first | (with_reducible exact Below.refl _ _) | (with_reducible assumption) | (with_reducible refine Below.alloc ?_ ?_ _) | (with_reducible refine below_grew ?_ ?_ _) | (with_reducible refine Below.setCell ?_ ?_ _) | (with_reducible refine Below.drew ?_) | (with_reducible refine below_drewN ?_ _) | omega | (simp; done) | (simp; omega)))⟩
    · skip
      go_enter Tryd.func86, Tryd.ntmps86
      go_wp2
      go_ret
      exact ⟨ret_bool (by first | rfl | (simp; done) | (simp; omega)), by (repeat' (first | (with_reducible exact Below.refl _ _) | (with_reducible assumption) | (with_reducible refine Below.alloc ?_ ?_ _) | (with_reducible refine below_grew ?_ ?_ _) | (with_reducible refine Below.setCell ?_ ?_ _) | (with_reducible refine Below.drew ?_) | (with_reducible refine below_drewN ?_ _) | omega | (simp; done) | (simp; omega)))⟩
  · skip
    go_enter Tryd.func86, Tryd.ntmps86
    go_wp2
    go_ret
    exact ⟨ret_bool (by first | rfl | (simp; done) | (simp; omega)), by (repeat' (first | (with_reducible exact Below.refl _ _) | (with_reducible assumption) | (with_reducible refine Below.alloc ?_ ?_ _) | (with_reducible refine below_grew ?_ ?_ _) | (with_reducible refine Below.setCell ?_ ?_ _) | (with_reducible refine Below.drew ?_) | (with_reducible refine below_drewN ?_ _) | omega | (simp; done) | (simp; omega)))⟩
theorem modeBands (s c : Int) (w : World) : Calls Tryd.prog 53 #[.agg #[.int .i64 s, .int .i64 c]] w fun e w' => e = .returned (.int .i64 (bandsF s c)) ∧ Below w.heap.size w w' := by
  have hr := Lib.hid (fun w => modeRight s c w)
  by_cases h : RightP s c
  · have E := Lib.hid (show bandsF s c = 3 + s from by unfold bandsF; rw [if_pos h])
    rw [decide_eq_true h] at hr
    obtain ⟨h1, h2, _, _⟩ := h
    go_enter Tryd.func53, Tryd.ntmps53
    go_wp2_with (go_at_call 86; refine (hr.out _).mono ?_; rintro e w' ⟨rfl, hb1⟩; obtain ⟨x1, rfl⟩ := below_as_grew hb1; clear hb1)
    go_ret
    exact ⟨ret_int E.out.symm, by (repeat' (first | (with_reducible exact Below.refl _ _) | (with_reducible assumption) | (with_reducible refine Below.alloc ?_ ?_ _) | (with_reducible refine below_grew ?_ ?_ _) | (with_reducible refine Below.setCell ?_ ?_ _) | (with_reducible refine Below.drew ?_) | (with_reducible refine below_drewN ?_ _) | omega | (simp; done) | (simp; omega)))⟩
  · have E := Lib.hid (show bandsF s c = 0 from by unfold bandsF; rw [if_neg h])
    rw [decide_eq_false h] at hr
    clear h
    go_enter Tryd.func53, Tryd.ntmps53
    go_wp2_with (go_at_call 86; refine (hr.out _).mono ?_; rintro e w' ⟨rfl, hb1⟩; obtain ⟨x1, rfl⟩ := below_as_grew hb1; clear hb1)
    go_ret
    exact ⟨ret_int E.out.symm, by (repeat' (first | (with_reducible exact Below.refl _ _) | (with_reducible assumption) | (with_reducible refine Below.alloc ?_ ?_ _) | (with_reducible refine below_grew ?_ ?_ _) | (with_reducible refine Below.setCell ?_ ?_ _) | (with_reducible refine Below.drew ?_) | (with_reducible refine below_drewN ?_ _) | omega | (simp; done) | (simp; omega)))⟩
end Go.Proofs.YtcibajleknhklaaDoor
end

section
namespace Go.Proofs.YtcibajleknhklaaDoor
open Go.RowKit Go.BigFrame Go.Proofs.YtcibajleknhklaaDoorW.PrintWords Go.Proofs.YtcibajleknhklaaDoorW.PrintLast Go.Proofs.YtcibajleknhklaaDoorW.PrintMore
open PStateTells RStateTells
set_option linter.unusedSimpArgs false
set_option linter.unusedVariables false
def fadL : List Int := [0, 29491, 22937, 13107, 4915]
abbrev FadeW (w : World) : Prop := TabW 2 5 .i32 fadL w
theorem FadeW.at {w : World} (h : FadeW w) (j : Int) (h0 : 0 ≤ j) (h1 : j < 5) : w.cell? ⟨2, j.toNat, none⟩ = some (.int .i32 (fadL.getD j.toNat 0)) := h.2 j.toNat (by omega)
theorem fadL_eq (n : Int) (h0 : 0 ≤ n) (h1 : n < 5) : fadL.getD n.toNat 0 = fadeF n := by
  have h5 : ∀ i : Fin 5, fadL.getD i.val 0 = fadeF (i.val : Int) := by decide
  have := h5 ⟨n.toNat, by omega⟩
  simp only at this
  rw [this, Int.toNat_of_nonneg h0]
theorem fade_any (n : Int) (w : World) (hT : FadeW w) : Calls Tryd.prog 128 #[.int .i64 n] w fun e w' => e = .returned (.int .i32 (fadeF n)) ∧ Below w.heap.size w w' := by
  by_cases h0 : n < 0
  · have E := Lib.hid (show fadeF n = 0 from by unfold fadeF; omega)
    clear hT
    go_enter Tryd.func128, Tryd.ntmps128
    go_wp2
    go_ret
    exact ⟨by rw [E.out]; rfl, by (repeat' (first | (with_reducible exact Below.refl _ _) | (with_reducible assumption) | (with_reducible refine Below.alloc ?_ ?_ _) | (with_reducible refine below_grew ?_ ?_ _) | (with_reducible refine Below.setCell ?_ ?_ _) | (with_reducible refine Below.drew ?_) | (with_reducible refine below_drewN ?_ _) | omega | (simp; done) | (simp; omega)))⟩
  · by_cases h5 : 5 ≤ n
    · have E := Lib.hid (show fadeF n = 0 from by unfold fadeF; omega)
      clear hT
      go_enter Tryd.func128, Tryd.ntmps128
      go_wp2
      go_ret
      exact ⟨by rw [E.out]; rfl, by (repeat' (first | (with_reducible exact Below.refl _ _) | (with_reducible assumption) | (with_reducible refine Below.alloc ?_ ?_ _) | (with_reducible refine below_grew ?_ ?_ _) | (with_reducible refine Below.setCell ?_ ?_ _) | (with_reducible refine Below.drew ?_) | (with_reducible refine below_drewN ?_ _) | omega | (simp; done) | (simp; omega)))⟩
    · have E := Lib.hid (fadL_eq n (by omega) (by omega))
      have hc := hT.at n (by omega) (by omega)
      have hg := hT.1
      generalize fadL.getD n.toNat 0 = x at *
      have h0' : 0 ≤ n := by omega
      have h5' : n < 5 := by omega
      clear hT h0 h5
      go_enter Tryd.func128, Tryd.ntmps128
      go_wp2
      go_ret
      exact ⟨by rw [E.out]; rfl, by (repeat' (first | (with_reducible exact Below.refl _ _) | (with_reducible assumption) | (with_reducible refine Below.alloc ?_ ?_ _) | (with_reducible refine below_grew ?_ ?_ _) | (with_reducible refine Below.setCell ?_ ?_ _) | (with_reducible refine Below.drew ?_) | (with_reducible refine below_drewN ?_ _) | omega | (simp; done) | (simp; omega)))⟩
set_option maxHeartbeats 4000000 in
set_option maxRecDepth 100000 in
theorem plain_any (l : List Int) (A : Option Addr) (c : Nat) (loss : Int) (w : World) (hC : Kd.C (Kd.int .i32) w A l.length l) (hc : l.length ≤ c) (hn : Len l.length) (hT : FadeW w) :
    Calls Tryd.prog 90 #[.slice A l.length c, .int .i64 loss] w fun e w' => ∃ v, e = .returned v ∧ Kd.R (Kd.int .i32) 21 w' w.heap.size (fun _ => True) v (madeF l loss) ∧ Below w.heap.size w w' := by
  have HC := Lib.hid hC
  have HT := Lib.hid hT
  have HL := Lib.hid (fun w h => conceal_Lag.calls 60 A c l _ w h hc (lag_f l hn 60 (by decide)))
  obtain ⟨p, hp⟩ : ∃ p : Nat, p = lagF l := ⟨_, rfl⟩
  obtain ⟨g1, g2⟩ := lag_bd l hn
  rw [← hp] at g1 g2 HL
  have HP := Lib.hid hp
  have hlen : 8 ≤ l.length ∧ l.length ≤ 32 := by unfold Len at hn; omega
  have pz : ((p : Int) == 0) = false := beq_eq_false_iff_ne.mpr (by omega)
  clear hC hT hn hp
  go_enter Tryd.func90, Tryd.ntmps90
  go_wp2_with fail
  refine (HL.out _ (Kd.C_below HC.out (by (repeat' (first | (with_reducible exact Below.refl _ _) | (with_reducible assumption) | (with_reducible refine Below.alloc ?_ ?_ _) | (with_reducible refine below_grew ?_ ?_ _) | (with_reducible refine Below.setCell ?_ ?_ _) | (with_reducible refine Below.drew ?_) | (with_reducible refine below_drewN ?_ _) | omega | (simp; done) | (simp; omega)))))).mono ?_
  rintro e w1 ⟨rfl, hb1⟩
  have hw1 := Lib.hid (show Below w.heap.size w w1 from by have := hb1; exact Below.trans (by (repeat' (first | (with_reducible exact Below.refl _ _) | (with_reducible assumption) | (with_reducible refine Below.alloc ?_ ?_ _) | (with_reducible refine below_grew ?_ ?_ _) | (with_reducible refine Below.setCell ?_ ?_ _) | (with_reducible refine Below.drew ?_) | (with_reducible refine below_drewN ?_ _) | omega | (simp; done) | (simp; omega)))) (this.mono (by simp)))
  clear hb1
  go_wp2_with fail
  go_loopw [6, 14] (fun vo cnt wr => ∃ i : Nat, i ≤ l.length ∧ cnt = .int .i64 i ∧ wr.ownsRow w.heap.size 21 1 vo i (((List.range i).map (madeAt l loss)).map (Value.int .i32)) ∧ Below w.heap.size w wr) (fun _ cnt _ => l.length - (intOf cnt).toNat)
  case atStart => exact ⟨0, by omega, rfl, World.ownsRow_nil _ _ _ _, by have := hw1.out; (repeat' (first | (with_reducible exact Below.refl _ _) | (with_reducible assumption) | (with_reducible refine Below.alloc ?_ ?_ _) | (with_reducible refine below_grew ?_ ?_ _) | (with_reducible refine Below.setCell ?_ ?_ _) | (with_reducible refine Below.drew ?_) | (with_reducible refine below_drewN ?_ _) | omega | (simp; done) | (simp; omega)))⟩
  case round =>
    obtain ⟨i, hi, rfl, hR, hB⟩ := hrel
    have HR := Lib.hid hR
    have HB := Lib.hid hB
    clear hR hB
    by_cases hlt : i < l.length
    · have hlt' : (i : Int) < l.length := by omega
      have hm := Nat.mod_lt i (show p > 0 by omega)
      obtain ⟨j, hj⟩ : ∃ j : Int, j = ((l.length - p + i % p : Nat) : Int) := ⟨_, rfl⟩
      obtain ⟨a1, f1⟩ : ∃ a1 : Int, IntKind.i64.wrap ((l.length : Int) - (p : Int)) = a1 := ⟨_, rfl⟩
      obtain ⟨a2, f2⟩ : ∃ a2 : Int, Int.tmod (i : Int) (p : Int) = a2 := ⟨_, rfl⟩
      have f3 : IntKind.i64.wrap (a1 + a2) = j := by
        have e1 : a1 = ((l.length - p : Nat) : Int) := by rw [← f1, wr_small (by omega) (by omega)]; omega
        have e2 : a2 = ((i % p : Nat) : Int) := by rw [← f2, Int.tmod_eq_emod_of_nonneg (by omega)]; rfl
        rw [e1, e2, wr_small (by omega) (by omega), hj]; rfl
      have j0 : (0 : Int) ≤ j := by omega
      have j1 : j < (l.length : Int) := by omega
      obtain ⟨ad, rfl, hcell⟩ := Kd.at_int HC.out j j0 j1
      have hcell := (HB.out.cell (World.block_lt_of_cell? w _ hcell)).trans hcell
      have HBL := Lib.hid (World.block_lt_of_cell? wr _ hcell)
      have HJ := Lib.hid hj
      have HCL := Lib.hid hcell
      have hTV : FadeW wr := HT.out.below HB.out
      have HTV := Lib.hid hTV
      have hpart := Lib.hid (part_eq (rd l j) loss)
      have hx : (hd (rd l j) * fadeF loss).tdiv 32768 = madeAt l loss i := by
        rw [hj, rd_nat, HP.out]; rfl
      rw [hx] at hpart
      generalize rd l j = x at *
      clear hj hcell hTV hx
      go_wp2_with fail
      refine wp_region_inv [] (fun W => Below wr.heap.size wr W) (fun W W' => Below W.heap.size W W') 16 (by kernel_rfl) (by kernel_rfl) (by kernel_rfl) ((Below.refl _ _).drew) (fun W W' h h' => h.trans (h'.mono h.size)) (fun _ _ h => h.size) ?_
      simp only [List.take_succ_cons, List.take_zero, List.drop_succ_cons, List.drop_zero]
      refine wpInv_det (by kernel_rfl) (by kernel_rfl) ?_
      apply Exists.intro
      refine ⟨?_, ?_, ?_⟩
      · intro U W hC hH
        have hc1 := (bcell hC).1
        have hf1 := (bcell hC).2
        simp only [HypsU, predsOf, Region.binds, List.filterMap_cons, List.filterMap_nil, if_true, List.nil_append, List.cons_append, List.getD_cons_zero, List.getD_cons_succ] at hH
        simp only [fillPuts, Act.put, List.setIfInBounds_toArray, List.set_cons_zero, List.set_cons_succ, Nat.reduceAdd]
        go_wp2_with fail
        refine ⟨rfl, rfl, by (repeat' (first | (with_reducible exact Below.refl _ _) | (with_reducible assumption) | (with_reducible refine Below.alloc ?_ ?_ _) | (with_reducible refine below_grew ?_ ?_ _) | (with_reducible refine Below.setCell ?_ ?_ _) | (with_reducible refine Below.drew ?_) | (with_reducible refine below_drewN ?_ _) | omega | (simp; done) | (simp; omega))), ?_⟩
        conv => lhs; whnf
        try rfl
      · exact fun _ => rfl
      simp only [List.nil_append, List.cons_append, Nat.reduceAdd]
      refine wpInv_det (by kernel_rfl) (by kernel_rfl) ?_
      apply Exists.intro
      refine ⟨?_, ?_, ?_⟩
      · intro U W hC hH
        have hc1 := (bcell hC).1
        have hf1 := (bcell hC).2
        simp only [HypsU, predsOf, Region.binds, List.filterMap_cons, List.filterMap_nil, if_true, List.nil_append, List.cons_append, List.getD_cons_zero, List.getD_cons_succ] at hH
        simp only [fillPuts, Act.put, List.setIfInBounds_toArray, List.set_cons_zero, List.set_cons_succ, Nat.reduceAdd]
        go_wp2_with fail
        refine ⟨rfl, rfl, by (repeat' (first | (with_reducible exact Below.refl _ _) | (with_reducible assumption) | (with_reducible refine Below.alloc ?_ ?_ _) | (with_reducible refine below_grew ?_ ?_ _) | (with_reducible refine Below.setCell ?_ ?_ _) | (with_reducible refine Below.drew ?_) | (with_reducible refine below_drewN ?_ _) | omega | (simp; done) | (simp; omega))), ?_⟩
        conv => lhs; whnf
        try rfl
      · exact fun _ => rfl
      simp only [List.nil_append, List.cons_append, Nat.reduceAdd]
      refine wpInv_det (by kernel_rfl) (by kernel_rfl) ?_
      apply Exists.intro
      refine ⟨?_, ?_, ?_⟩
      · intro U W hC hH
        have hc1 := (bcell hC).1
        have hf1 := (bcell hC).2
        simp only [HypsU, predsOf, Region.binds, List.filterMap_cons, List.filterMap_nil, if_true, List.nil_append, List.cons_append, List.getD_cons_zero, List.getD_cons_succ] at hH
        simp only [fillPuts, Act.put, List.setIfInBounds_toArray, List.set_cons_zero, List.set_cons_succ, Nat.reduceAdd]
        go_wp2_with fail
        refine ⟨rfl, rfl, by (repeat' (first | (with_reducible exact Below.refl _ _) | (with_reducible assumption) | (with_reducible refine Below.alloc ?_ ?_ _) | (with_reducible refine below_grew ?_ ?_ _) | (with_reducible refine Below.setCell ?_ ?_ _) | (with_reducible refine Below.drew ?_) | (with_reducible refine below_drewN ?_ _) | omega | (simp; done) | (simp; omega))), ?_⟩
        conv => lhs; whnf
        try rfl
      · exact fun _ => rfl
      simp only [List.nil_append, List.cons_append, Nat.reduceAdd]
      refine wpInv_det (by kernel_rfl) (by kernel_rfl) ?_
      apply Exists.intro
      refine ⟨?_, ?_, ?_⟩
      · intro U W hC hH
        have hc1 := (bcell hC).1
        have hf1 := (bcell hC).2
        simp only [HypsU, predsOf, Region.binds, List.filterMap_cons, List.filterMap_nil, if_true, List.nil_append, List.cons_append, List.getD_cons_zero, List.getD_cons_succ] at hH
        simp only [fillPuts, Act.put, List.setIfInBounds_toArray, List.set_cons_zero, List.set_cons_succ, Nat.reduceAdd]
        go_wp2_with fail
        refine ⟨rfl, rfl, by (repeat' (first | (with_reducible exact Below.refl _ _) | (with_reducible assumption) | (with_reducible refine Below.alloc ?_ ?_ _) | (with_reducible refine below_grew ?_ ?_ _) | (with_reducible refine Below.setCell ?_ ?_ _) | (with_reducible refine Below.drew ?_) | (with_reducible refine below_drewN ?_ _) | omega | (simp; done) | (simp; omega))), ?_⟩
        conv => lhs; whnf
        try rfl
      · exact fun _ => rfl
      simp only [List.nil_append, List.cons_append, Nat.reduceAdd]
      refine wpInv_det (by kernel_rfl) (by kernel_rfl) ?_
      apply Exists.intro
      refine ⟨?_, ?_, ?_⟩
      · intro U W hC hH
        have hc1 := (bcell hC).1
        have hf1 := (bcell hC).2
        simp only [HypsU, predsOf, Region.binds, List.filterMap_cons, List.filterMap_nil, if_true, List.nil_append, List.cons_append, List.getD_cons_zero, List.getD_cons_succ] at hH
        simp only [fillPuts, Act.put, List.setIfInBounds_toArray, List.set_cons_zero, List.set_cons_succ, Nat.reduceAdd]
        go_wp2_with fail
        refine ⟨rfl, rfl, by (repeat' (first | (with_reducible exact Below.refl _ _) | (with_reducible assumption) | (with_reducible refine Below.alloc ?_ ?_ _) | (with_reducible refine below_grew ?_ ?_ _) | (with_reducible refine Below.setCell ?_ ?_ _) | (with_reducible refine Below.drew ?_) | (with_reducible refine below_drewN ?_ _) | omega | (simp; done) | (simp; omega))), ?_⟩
        conv => lhs; whnf
        try rfl
      · exact fun _ => rfl
      simp only [List.nil_append, List.cons_append, Nat.reduceAdd]
      refine wpInv_det (by kernel_rfl) (by kernel_rfl) ?_
      apply Exists.intro
      refine ⟨?_, ?_, ?_⟩
      · intro U W hC hH
        have hc1 := (bcell hC).1
        have hf1 := (bcell hC).2
        simp only [HypsU, predsOf, Region.binds, List.filterMap_cons, List.filterMap_nil, if_true, List.nil_append, List.cons_append, List.getD_cons_zero, List.getD_cons_succ] at hH
        simp only [fillPuts, Act.put, List.setIfInBounds_toArray, List.set_cons_zero, List.set_cons_succ, Nat.reduceAdd]
        go_wp2_with fail
        refine ⟨rfl, rfl, by (repeat' (first | (with_reducible exact Below.refl _ _) | (with_reducible assumption) | (with_reducible refine Below.alloc ?_ ?_ _) | (with_reducible refine below_grew ?_ ?_ _) | (with_reducible refine Below.setCell ?_ ?_ _) | (with_reducible refine Below.drew ?_) | (with_reducible refine below_drewN ?_ _) | omega | (simp; done) | (simp; omega))), ?_⟩
        conv => lhs; whnf
        try rfl
      · exact fun _ => rfl
      simp only [List.nil_append, List.cons_append, Nat.reduceAdd]
      refine wpInv_det (by kernel_rfl) (by kernel_rfl) ?_
      apply Exists.intro
      refine ⟨?_, ?_, ?_⟩
      · intro U W hC hH
        have hc1 := (bcell hC).1
        have hf1 := (bcell hC).2
        simp only [HypsU, predsOf, Region.binds, List.filterMap_cons, List.filterMap_nil, if_true, List.nil_append, List.cons_append, List.getD_cons_zero, List.getD_cons_succ] at hH
        simp only [fillPuts, Act.put, List.setIfInBounds_toArray, List.set_cons_zero, List.set_cons_succ, Nat.reduceAdd]
        go_wp2_with fail
        refine ⟨rfl, rfl, by (repeat' (first | (with_reducible exact Below.refl _ _) | (with_reducible assumption) | (with_reducible refine Below.alloc ?_ ?_ _) | (with_reducible refine below_grew ?_ ?_ _) | (with_reducible refine Below.setCell ?_ ?_ _) | (with_reducible refine Below.drew ?_) | (with_reducible refine below_drewN ?_ _) | omega | (simp; done) | (simp; omega))), ?_⟩
        conv => lhs; whnf
        try rfl
      · exact fun _ => rfl
      simp only [List.nil_append, List.cons_append, Nat.reduceAdd]
      refine wpInv_det (by kernel_rfl) (by kernel_rfl) ?_
      apply Exists.intro
      refine ⟨?_, ?_, ?_⟩
      · intro U W hC hH
        have hc1 := (bcell hC).1
        have hf1 := (bcell hC).2
        simp only [HypsU, predsOf, Region.binds, List.filterMap_cons, List.filterMap_nil, if_true, List.nil_append, List.cons_append, List.getD_cons_zero, List.getD_cons_succ] at hH
        simp only [fillPuts, Act.put, List.setIfInBounds_toArray, List.set_cons_zero, List.set_cons_succ, Nat.reduceAdd]
        go_wp2_with fail
        refine ⟨rfl, rfl, by (repeat' (first | (with_reducible exact Below.refl _ _) | (with_reducible assumption) | (with_reducible refine Below.alloc ?_ ?_ _) | (with_reducible refine below_grew ?_ ?_ _) | (with_reducible refine Below.setCell ?_ ?_ _) | (with_reducible refine Below.drew ?_) | (with_reducible refine below_drewN ?_ _) | omega | (simp; done) | (simp; omega))), ?_⟩
        conv => lhs; whnf
        try rfl
      · exact fun _ => rfl
      simp only [List.nil_append, List.cons_append, Nat.reduceAdd]
      refine wpInv_det (by kernel_rfl) (by kernel_rfl) ?_
      apply Exists.intro
      refine ⟨?_, ?_, ?_⟩
      · intro U W hC hH
        have hc1 := (bcell hC).1
        have hf1 := (bcell hC).2
        simp only [HypsU, predsOf, Region.binds, List.filterMap_cons, List.filterMap_nil, if_true, List.nil_append, List.cons_append, List.getD_cons_zero, List.getD_cons_succ] at hH
        simp only [fillPuts, Act.put, List.setIfInBounds_toArray, List.set_cons_zero, List.set_cons_succ, Nat.reduceAdd]
        go_wp2_with fail
        refine ⟨rfl, rfl, by (repeat' (first | (with_reducible exact Below.refl _ _) | (with_reducible assumption) | (with_reducible refine Below.alloc ?_ ?_ _) | (with_reducible refine below_grew ?_ ?_ _) | (with_reducible refine Below.setCell ?_ ?_ _) | (with_reducible refine Below.drew ?_) | (with_reducible refine below_drewN ?_ _) | omega | (simp; done) | (simp; omega))), ?_⟩
        conv => lhs; whnf
        try rfl
      · exact fun _ => rfl
      simp only [List.nil_append, List.cons_append, Nat.reduceAdd]
      refine wpInv_det (by kernel_rfl) (by kernel_rfl) ?_
      apply Exists.intro
      refine ⟨?_, ?_, ?_⟩
      · intro U W hC hH
        have hc1 := (bcell hC).1
        have hf1 := (bcell hC).2
        simp only [HypsU, predsOf, Region.binds, List.filterMap_cons, List.filterMap_nil, if_true, List.nil_append, List.cons_append, List.getD_cons_zero, List.getD_cons_succ] at hH
        simp only [fillPuts, Act.put, List.setIfInBounds_toArray, List.set_cons_zero, List.set_cons_succ, Nat.reduceAdd]
        go_wp2_with fail
        refine ⟨rfl, rfl, by (repeat' (first | (with_reducible exact Below.refl _ _) | (with_reducible assumption) | (with_reducible refine Below.alloc ?_ ?_ _) | (with_reducible refine below_grew ?_ ?_ _) | (with_reducible refine Below.setCell ?_ ?_ _) | (with_reducible refine Below.drew ?_) | (with_reducible refine below_drewN ?_ _) | omega | (simp; done) | (simp; omega))), ?_⟩
        conv => lhs; whnf
        try rfl
      · exact fun _ => rfl
      simp only [List.nil_append, List.cons_append, Nat.reduceAdd]
      refine wpInv_det (by kernel_rfl) (by kernel_rfl) ?_
      apply Exists.intro
      refine ⟨?_, ?_, ?_⟩
      · intro U W hC hH
        have hc1 := (bcell hC).1
        have hf1 := (bcell hC).2
        simp only [HypsU, predsOf, Region.binds, List.filterMap_cons, List.filterMap_nil, if_true, List.nil_append, List.cons_append, List.getD_cons_zero, List.getD_cons_succ] at hH
        simp only [fillPuts, Act.put, List.setIfInBounds_toArray, List.set_cons_zero, List.set_cons_succ, Nat.reduceAdd]
        go_wp2_with fail
        refine ⟨rfl, rfl, by (repeat' (first | (with_reducible exact Below.refl _ _) | (with_reducible assumption) | (with_reducible refine Below.alloc ?_ ?_ _) | (with_reducible refine below_grew ?_ ?_ _) | (with_reducible refine Below.setCell ?_ ?_ _) | (with_reducible refine Below.drew ?_) | (with_reducible refine below_drewN ?_ _) | omega | (simp; done) | (simp; omega))), ?_⟩
        conv => lhs; whnf
        try rfl
      · exact fun _ => rfl
      simp only [List.nil_append, List.cons_append, Nat.reduceAdd]
      refine wpInv_det (by kernel_rfl) (by kernel_rfl) ?_
      apply Exists.intro
      refine ⟨?_, ?_, ?_⟩
      · intro U W hC hH
        have hc1 := (bcell hC).1
        have hf1 := (bcell hC).2
        simp only [HypsU, predsOf, Region.binds, List.filterMap_cons, List.filterMap_nil, if_true, List.nil_append, List.cons_append, List.getD_cons_zero, List.getD_cons_succ] at hH
        simp only [fillPuts, Act.put, List.setIfInBounds_toArray, List.set_cons_zero, List.set_cons_succ, Nat.reduceAdd]
        have hcl := (hC.cell HBL.out).trans HCL.out; go_wp2_with fail
        refine ⟨rfl, rfl, by (repeat' (first | (with_reducible exact Below.refl _ _) | (with_reducible assumption) | (with_reducible refine Below.alloc ?_ ?_ _) | (with_reducible refine below_grew ?_ ?_ _) | (with_reducible refine Below.setCell ?_ ?_ _) | (with_reducible refine Below.drew ?_) | (with_reducible refine below_drewN ?_ _) | omega | (simp; done) | (simp; omega))), ?_⟩
        conv => lhs; whnf
        try rfl
      · exact fun _ => rfl
      simp only [List.nil_append, List.cons_append, Nat.reduceAdd]
      refine wpInv_det (by kernel_rfl) (by kernel_rfl) ?_
      apply Exists.intro
      refine ⟨?_, ?_, ?_⟩
      · intro U W hC hH
        have hc1 := (bcell hC).1
        have hf1 := (bcell hC).2
        simp only [HypsU, predsOf, Region.binds, List.filterMap_cons, List.filterMap_nil, if_true, List.nil_append, List.cons_append, List.getD_cons_zero, List.getD_cons_succ] at hH
        simp only [fillPuts, Act.put, List.setIfInBounds_toArray, List.set_cons_zero, List.set_cons_succ, Nat.reduceAdd]
        go_wp2_with fail
        refine ⟨rfl, rfl, by (repeat' (first | (with_reducible exact Below.refl _ _) | (with_reducible assumption) | (with_reducible refine Below.alloc ?_ ?_ _) | (with_reducible refine below_grew ?_ ?_ _) | (with_reducible refine Below.setCell ?_ ?_ _) | (with_reducible refine Below.drew ?_) | (with_reducible refine below_drewN ?_ _) | omega | (simp; done) | (simp; omega))), ?_⟩
        conv => lhs; whnf
        try rfl
      · exact fun _ => rfl
      simp only [List.nil_append, List.cons_append, Nat.reduceAdd]
      refine wpInv_det (by kernel_rfl) (by kernel_rfl) ?_
      apply Exists.intro
      refine ⟨?_, ?_, ?_⟩
      · intro U W hC hH
        have hc1 := (bcell hC).1
        have hf1 := (bcell hC).2
        simp only [HypsU, predsOf, Region.binds, List.filterMap_cons, List.filterMap_nil, if_true, List.nil_append, List.cons_append, List.getD_cons_zero, List.getD_cons_succ] at hH
        simp only [fillPuts, Act.put, List.setIfInBounds_toArray, List.set_cons_zero, List.set_cons_succ, Nat.reduceAdd]
        go_wp2_with fail; refine (fade_any _ _ (HTV.out.below hC)).mono ?_; rintro e w' ⟨rfl, hb1⟩; obtain ⟨x1, rfl⟩ := below_as_grew hb1; clear hb1; go_wp2_with fail
        refine ⟨rfl, rfl, by (repeat' (first | (with_reducible exact Below.refl _ _) | (with_reducible assumption) | (with_reducible refine Below.alloc ?_ ?_ _) | (with_reducible refine below_grew ?_ ?_ _) | (with_reducible refine Below.setCell ?_ ?_ _) | (with_reducible refine Below.drew ?_) | (with_reducible refine below_drewN ?_ _) | omega | (simp; done) | (simp; omega))), ?_⟩
        conv => lhs; whnf
        try rfl
      · exact fun _ => rfl
      simp only [List.nil_append, List.cons_append, Nat.reduceAdd]
      refine wpInv_det (by kernel_rfl) (by kernel_rfl) ?_
      apply Exists.intro
      refine ⟨?_, ?_, ?_⟩
      · intro U W hC hH
        have hc1 := (bcell hC).1
        have hf1 := (bcell hC).2
        simp only [HypsU, predsOf, Region.binds, List.filterMap_cons, List.filterMap_nil, if_true, List.nil_append, List.cons_append, List.getD_cons_zero, List.getD_cons_succ] at hH
        simp only [fillPuts, Act.put, List.setIfInBounds_toArray, List.set_cons_zero, List.set_cons_succ, Nat.reduceAdd]
        go_wp2_with fail; refine (conceal_part.calls _ _ _ _ hpart.out).mono ?_; rintro e w' ⟨rfl, hb1⟩; obtain ⟨x1, rfl⟩ := below_as_grew hb1; clear hb1; go_wp2_with fail
        refine ⟨rfl, rfl, by (repeat' (first | (with_reducible exact Below.refl _ _) | (with_reducible assumption) | (with_reducible refine Below.alloc ?_ ?_ _) | (with_reducible refine below_grew ?_ ?_ _) | (with_reducible refine Below.setCell ?_ ?_ _) | (with_reducible refine Below.drew ?_) | (with_reducible refine below_drewN ?_ _) | omega | (simp; done) | (simp; omega))), ?_⟩
        conv => lhs; whnf
        try rfl
      · exact fun _ => rfl
      simp only [List.nil_append, List.cons_append, Nat.reduceAdd]
      refine ⟨fun U W => ∃ q, U 15 = .slice (some ⟨q, 0, none⟩) 1 1 ∧ wr.heap.size ≤ q ∧ W.heap[q]? = some (.cells #[.int .i32 (madeAt l loss i)] 21 (0, 0)), fun _ _ => rfl, ?_, ?_, ?_⟩
      · rintro U W W' hC hT ⟨q, h0, hq, hqc⟩
        exact ⟨q, h0, hq, (hT.block q (Array.getElem?_eq_some_iff.1 hqc).1).trans hqc⟩
      · intro U W hC hH
        simp only [HypsU, predsOf, Region.binds, List.filterMap_cons, List.filterMap_nil, if_true, List.nil_append, List.cons_append, List.getD_cons_zero, List.getD_cons_succ] at hH
        simp only [fillPuts, Act.put, List.setIfInBounds_toArray, List.set_cons_zero, List.set_cons_succ, Nat.reduceAdd]
        go_wp2_with fail
        refine ⟨rfl, rfl, by (repeat' (first | (with_reducible exact Below.refl _ _) | (with_reducible assumption) | (with_reducible refine Below.alloc ?_ ?_ _) | (with_reducible refine below_grew ?_ ?_ _) | (with_reducible refine Below.setCell ?_ ?_ _) | (with_reducible refine Below.drew ?_) | (with_reducible refine below_drewN ?_ _) | omega | (simp; done) | (simp; omega))), ⟨_, updU_eq _ _ _, hC.size, alloc_at _ _⟩, fun h => by cases h⟩
      simp only [List.nil_append, List.cons_append, Nat.reduceAdd, fillPuts, Act.put, List.setIfInBounds_toArray, List.set_cons_zero, List.set_cons_succ]
      rintro U W hC ⟨h0, h1, h2, h3, h4, h5, h6, h7, h8, h9, h10, h11, h12, h13, h14, ⟨q, h15, hq, hqc⟩, -⟩ -
      simp only [h0, h1, h2, h3, h4, h5, h6, h7, h8, h9, h10, h11, h12, h13, h14, h15]
      clear h0 h1 h2 h3 h4 h5 h6 h7 h8 h9 h10 h11 h12 h13 h14 h15
      have hRW := ownsRow_below HR.out hC
      have hsz : w.heap.size ≤ W.heap.size := Nat.le_trans HB.out.size hC.size
      go_wp2_with (at_builtin; refine append_src rfl _ _ 43 rfl w.heap.size 21 21 (.int .i32 0) 1 4 Tryd.underlying43 (by kernel_rfl) (by rfl) (by decide) u6 i _ rfl hRW q [_] rfl hqc rfl ?h1 ?h63 ?hby ?hba ?_; (case h1 => simp [Value.oneCell']; done); (case h63 => exact maxLen_le (by omega)); (case hby => omega); (case hba => omega); intro v' w' hR' hgr hown)
      have hB' : Below w.heap.size w w' := (HB.out.trans (hC.mono HB.out.size)).trans ⟨hgr.os, hgr.tape, hgr.output, hgr.size, fun k hk => hgr.block k (by omega) (fun e => by have := (own_lt' hRW k e.symm).1; omega)⟩
      have HR' := Lib.hid hR'
      have HB' := Lib.hid hB'
      clear hR' hB' hgr hown hRW hqc
      go_wp2_with fail
      go_roundw
      case rel =>
        refine ⟨i + 1, by omega, rfl, ?_, HB'.out⟩
        have := HR'.out
        rw [List.range_succ, List.map_append, List.map_append]
        exact this
      case measure => simp [intOf]; omega
    · have hlt' : ¬ (i : Int) < l.length := by omega
      obtain rfl : i = l.length := by omega
      go_wp2_with fail
      go_ret
      refine ⟨u6, rfl, ?_, HB.out⟩
      refine Kd.R_of_own ?_ (fun _ _ => trivial)
      have := HR.out
      unfold madeF
      simpa only [List.length_map, List.length_range, encs] using this
end Go.Proofs.YtcibajleknhklaaDoor
end

section
namespace Go.Proofs.YtcibajleknhklaaDoor
open Go.RowKit Go.BigFrame Go.Proofs.YtcibajleknhklaaDoorW.PrintWords Go.Proofs.YtcibajleknhklaaDoorW.PrintLast Go.Proofs.YtcibajleknhklaaDoorW.PrintMore
open PStateTells RStateTells
set_option linter.unusedSimpArgs false
set_option linter.unusedVariables false
theorem sat16_eq (x : Int) : fix_Sat16.f x = some (sat16 x) := by
  unfold fix_Sat16.f sat16 mn mx
  congr 1
  split <;> split <;> omega
theorem info_sl : (Tryd.prog.info? 100).map (fun i => (i.zero, i.size, i.bytes)) = some (some (.slice none 0 0), 1, 24) := by kernel_rfl
theorem infoI16 : (Tryd.prog.info? 108).map (fun i => (i.zero, i.size, i.bytes)) = some (some (.int .i16 0), 1, 2) := by kernel_rfl
theorem zeroI32 (w : World) : (zeroValue 21).run Tryd.prog w = .ok (.int .i32 0) w := by kernel_rfl
theorem madeF_bd (l : List Int) (L : Int) (i : Nat) : -16777216 ≤ (madeF l L).getD i 0 ∧ (madeF l L).getD i 0 ≤ 16777216 := by
  unfold madeF
  by_cases h : i < l.length
  · simp only [List.getD_eq_getElem?_getD, List.getElem?_map, List.getElem?_range h, Option.map_some, Option.getD_some]
    exact madeAt_bd _ _ _
  · rw [List.getD_eq_getElem?_getD, List.getElem?_eq_none (by simp; omega)]
    simp
theorem zeroS_size : Tryd.zeroCells97.size = 142 := by kernel_rfl
theorem zeroS_le (f : Nat → Int) : (ag kS 142 f).size ≤ Tryd.zeroCells97.size := by rw [ag_size, zeroS_size]; exact Nat.le_refl _
theorem infoS : (Tryd.prog.info? 97).map (·.size) = some 142 := by kernel_rfl
theorem infoS_ag (f : Nat → Int) : (Tryd.prog.info? 97).map (·.size) = some (ag kS 142 f).size := by rw [ag_size]; exact infoS
/-- The call's frame: the state, the mode, the result. -/
structure LS (w : World) (B : Nat) (f : Nat → Int) (s c : Int) (W : World) : Prop where
  below : Below B w W
  size : B + 2 < W.heap.size
  st : Bx B St kS 142 f W
  mo : W.heap[B + 1]? = some (.cells #[.int .i64 s, .int .i64 c] 60 (0, 0))
  rz : W.heap[B + 2]? = some (.cells Tryd.zeroCells97 St (0, 0))
theorem LS.keepB {w B f s c} {C : Nat} {W W' : World} (h : LS w B f s c W) (hb : Below C W W') (hC : B + 2 < C) : LS w B f s c W' := by
  have hs := h.size
  exact ⟨h.below.trans (hb.mono (by omega)), Nat.lt_of_lt_of_le hs hb.size, (hb.block _ (by omega)).trans h.st, (hb.block _ (by omega)).trans h.mo, (hb.block _ (by omega)).trans h.rz⟩
theorem LS.keep {w B f s c} {W W' : World} (h : LS w B f s c W) (hb : Below W.heap.size W W') : LS w B f s c W' := h.keepB hb h.size
theorem LS.only {w B f s c} {f' : Nat → Int} {W W' : World} (h : LS w B f s c W) (ho : Only B W W') (hf : Bx B St kS 142 f' W') : LS w B f' s c W' :=
  ⟨ho.below h.below (Nat.le_refl _), by rw [ho.size]; exact h.size, hf, (ho.block _ (by omega)).trans h.mo, (ho.block _ (by omega)).trans h.rz⟩
theorem LS.m0 {w B f s c} {W : World} (h : LS w B f s c W) : W.cell? ⟨B + 1, 0, none⟩ = some (.int .i64 s) := (block_facts h.mo).1 0
theorem LS.m1 {w B f s c} {W : World} (h : LS w B f s c W) : W.cell? ⟨B + 1, 1, none⟩ = some (.int .i64 c) := (block_facts h.mo).1 1
theorem LS.ext {w B f s c} {f' : Nat → Int} {W : World} (h : LS w B f s c W) (he : ∀ i, i < 142 → f i = f' i) : LS w B f' s c W :=
  ⟨h.below, h.size, by have := h.st; unfold Bx at this ⊢; rwa [ag_ext kS 142 f f' he] at this, h.mo, h.rz⟩
/-- What a loss makes of a state. -/
def loseF (s c : Int) (st : Nat → Int) : Nat → Int := fun j =>
  if j = 140 then (st 140 * 1664525 + 1013904223) % 4294967296
  else if j = 141 then min (lossOf st) 1000
  else loseTo (nOf s) (nbOf s) (lossOf st) st c.toNat j
def soundsF (s : Int) (st : Nat → Int) (c : Nat) : List (List Int) := (List.range c).map fun i => soundC st (nOf s) i (lossOf st)
theorem modeN26 (s c : Int) (hs : 0 ≤ s ∧ s ≤ 2) (hc : 1 ≤ c ∧ c ≤ 2) (w : World) : Calls Tryd.prog 47 #[.agg #[.int .i64 s, .int .i64 c]] w fun e w' => e = .returned (.int .i64 (nOf s : Nat)) ∧ Below w.heap.size w w' := by
  have hr : mode_Mode_Right.f s c = some true := by
    unfold mode_Mode_Right.f
    rw [if_pos (by omega), if_pos (by omega), if_pos (by omega), decide_eq_true (by omega)]
  have h : mode_Mode_N.f s c = some ((nOf s : Nat) : Int) := by
    unfold mode_Mode_N.f
    rw [hr]
    simp only [Option.bind_some, if_true]
    rw [if_pos hs.1]
    rcases (show s = 0 ∨ s = 1 ∨ s = 2 by omega) with h | h | h <;> subst h <;> rfl
  exact mode_Mode_N.calls s c _ w h
theorem nOf_len (s : Int) : Len (nOf s) := by unfold Len nOf; split <;> (try split) <;> omega
theorem bands26 (s : Int) (c : Int) (hs : 0 ≤ s ∧ s ≤ 2) (hc : 1 ≤ c ∧ c ≤ 2) (w : World) : Calls Tryd.prog 53 #[.agg #[.int .i64 s, .int .i64 c]] w fun e w' => e = .returned (.int .i64 (nbOf s : Nat)) ∧ Below w.heap.size w w' := by
  have h := modeBands s c w
  rwa [show bandsF s c = (nbOf s : Nat) from by unfold bandsF nbOf; rw [if_pos ⟨by omega, by omega, by omega, by omega⟩]; omega] at h
theorem loseTo_hist (n nb : Nat) (L : Int) (st : Nat → Int) (k : Nat) (hn : n ≤ 32) (hb : nb ≤ 5) (hk : k < 2) : ∀ i, i ≤ k → histL (loseTo n nb L st i) n k = histL st n k
  | 0, _ => rfl
  | i + 1, h => by
    rw [loseTo, loseC_hist n nb i k L _ hn hb (by omega) hk (by omega)]
    exact loseTo_hist n nb L st k hn hb hk i (by omega)
theorem LS.below' {w B f s c} {W : World} (h : LS w B f s c W) (hB : w.heap.size ≤ B) : Below w.heap.size w W := h.below.mono hB
theorem plainL (st : Nat → Int) (n nb : Nat) (L : Int) (k B : Nat) (W : World) (hn : Len n) (hk : k < 2) (hb : nb ≤ 5) (hW : Bx B St kS 142 (loseTo n nb L st k) W) (hT : FadeW W) :
    Calls Tryd.prog 90 #[.slice (some ⟨B, 74 + k * 32, none⟩) n 32, .int .i64 L] W fun e w' => ∃ v, e = .returned v ∧ Kd.R (Kd.int .i32) 21 w' W.heap.size (fun _ => True) v (madeF (histL st n k) L) ∧ Below W.heap.size W w' := by
  have hn32 : n ≤ 32 := by unfold Len at hn; omega
  have hC := bx_reads hW .i32 (74 + k * 32) n (by omega) (by decide) (fun j h1 h2 => by unfold kS; rw [if_neg (by omega), if_pos (by omega)])
  have e : ((List.range n).map fun i => loseTo n nb L st k (74 + k * 32 + i)) = histL st n k := loseTo_hist n nb L st k hn32 hb hk k (Nat.le_refl _)
  rw [e] at hC
  have := plain_any (histL st n k) (some ⟨B, 74 + k * 32, none⟩) 32 L W hC (by rw [histL_len]; exact hn32) (by rw [histL_len]; exact hn) hT
  rwa [histL_len] at this
theorem loseTo_E (n nb : Nat) (L : Int) (st : Nat → Int) (h : ∀ j, j < 10 → st j ≤ 9223372036854775807) : ∀ k j, j < 10 → loseTo n nb L st k j ≤ 9223372036854775807
  | 0, j, hj => h j hj
  | k + 1, j, hj => by
    have := loseTo_E n nb L st h k j hj
    rw [loseTo, loseC]
    rw [if_neg (by omega), if_neg (by omega), if_neg (by omega)]
    split <;> omega
/-- The energies of a channel, so many of them smaller. -/
def eTo (f : Nat → Int) (k b : Nat) : Nat → Int := fun j => if k * 5 ≤ j ∧ j < k * 5 + b then max (f j) 2 - 2 else f j
theorem loseTo_high (n nb : Nat) (L : Int) (st : Nat → Int) (hn : n ≤ 32) (hb : nb ≤ 5) (j : Nat) (hj : 140 ≤ j) : ∀ k, k ≤ 2 → loseTo n nb L st k j = st j
  | 0, _ => rfl
  | k + 1, hk => by
    rw [loseTo, loseC, if_neg (by omega), if_neg (by omega), if_neg (by omega), if_neg (by omega)]
    exact loseTo_high n nb L st hn hb j hj k (by omega)
theorem eTo_lose (n nb : Nat) (L : Int) (st : Nat → Int) (k : Nat) (X : List Int) (hX : X.length = n) (hn : n ≤ 32) (hb : nb ≤ 5) (hk : k < 2) (hm : madeF (histL st n k) L = X) (j : Nat) :
    eTo (updI (overF (overF (loseTo n nb L st k) (74 + k * 32) X) (10 + k * 32) (List.replicate n 0)) (138 + k) 0) k nb j = loseTo n nb L st (k + 1) j := by
  rw [loseTo, loseC, loseTo_hist n nb L st k hn hb hk k (Nat.le_refl _)]
  unfold eTo updI overF
  rw [List.length_replicate, hX]
  by_cases h1 : 10 + k * 32 ≤ j ∧ j < 10 + k * 32 + n
  · rw [if_neg (by omega), if_neg (by omega), if_pos h1, if_pos h1]
    simp [List.getD_eq_getElem?_getD, List.getElem?_replicate, show j - (10 + k * 32) < n from by omega]
  · by_cases h2 : 74 + k * 32 ≤ j ∧ j < 74 + k * 32 + n
    · rw [if_neg (by omega), if_neg (by omega), if_neg h1, if_pos h2, if_neg h1, if_pos h2, ← hm]
      have hl : (histL st n k).length = n := histL_len ..
      simp only [madeF, List.getD_eq_getElem?_getD, List.getElem?_map]
      rw [hl, List.getElem?_range (by omega)]
      rfl
    · by_cases h3 : j = 138 + k
      · rw [if_neg (by omega), if_pos h3, if_neg h1, if_neg h2, if_pos h3]
      · rw [if_neg h3, if_neg h1, if_neg h2, if_neg h1, if_neg h2, if_neg h3]
def soundsK (st : Nat → Int) (n : Nat) (L : Int) (k : Nat) : List (List Int) := (List.range k).map fun i => soundC st n i L
theorem soundsK_len (st : Nat → Int) (n : Nat) (L : Int) (k : Nat) : ∀ x ∈ soundsK st n L k, x.length = n := by
  intro x hx
  obtain ⟨i, _, rfl⟩ := List.mem_map.1 hx
  simp [soundC, madeF_len, histL_len]
set_option maxHeartbeats 4000000 in
set_option maxRecDepth 100000 in
theorem lose_any (st : Nat → Int) (s : Int) (c : Nat) (hs : 0 ≤ s ∧ s ≤ 2) (hc : 1 ≤ c ∧ c ≤ 2) (hst0 : ∀ j, j < 10 → st j ≤ 9223372036854775807) (w : World) (hT : FadeW w) :
    Calls Tryd.prog 49 #[.agg (ag kS 142 st), .agg #[.int .i64 s, .int .i64 c]] w fun e w' => ∃ v, e = .returned (.tuple #[.agg (ag kS 142 (loseF s c st)), v]) ∧
      Kd.R (Kd.int .i16) 108 w' w.heap.size (fun _ => True) v (mixF (soundsF s st c) (nOf s)) ∧ Below w.heap.size w w' := by
  have HT := Lib.hid hT
  have hst := Lib.hid hst0
  have hR := Lib.hid (show RightP s c from ⟨by omega, by omega, by omega, by omega⟩)
  have hN := Lib.hid (fun w => modeN26 s c hs (by omega) w)
  have hBn := Lib.hid (fun w => bands26 s c hs (by omega) w)
  have hRt := Lib.hid (fun w => modeRight s c w)
  rw [decide_eq_true hR.out] at hRt
  obtain ⟨n, hn⟩ : ∃ n, nOf s = n := ⟨_, rfl⟩
  obtain ⟨nb, hnb⟩ : ∃ nb, nbOf s = nb := ⟨_, rfl⟩
  rw [hn] at hN
  rw [hnb] at hBn
  have HL := Lib.hid (nOf_len s)
  rw [hn] at HL
  have hn32 : 8 ≤ n ∧ n ≤ 32 := by have := HL.out; unfold Len at this; omega
  have hnb5 : nb ≤ 5 := by unfold nbOf at hnb; omega
  have Hn := Lib.hid hn
  have Hnb := Lib.hid hnb
  have e141 : (ag kS 142 st)[141]? = some (.int .i64 (st 141)) := ag_get _ _ _ _ (by decide)
  clear hT hn hnb hst0
  go_enter Tryd.func49, Tryd.ntmps49
  go_wp2_with (first | (go_at_call 86; refine (hRt.out _).mono ?_; rintro e w' ⟨rfl, hb1⟩; obtain ⟨x1, rfl⟩ := below_as_grew hb1; clear hb1) | (go_at_call 47; refine (hN.out _).mono ?_; rintro e w' ⟨rfl, hb1⟩; obtain ⟨x1, rfl⟩ := below_as_grew hb1; clear hb1))
  refine cut_world (fun V => LS w w.heap.size st s c V) ⟨by (repeat' (first | (with_reducible exact Below.refl _ _) | (with_reducible assumption) | (with_reducible refine Below.alloc ?_ ?_ _) | (with_reducible refine below_grew ?_ ?_ _) | (with_reducible refine Below.setCell ?_ ?_ _) | (with_reducible refine Below.drew ?_) | (with_reducible refine below_drewN ?_ _) | omega | (simp; done) | (simp; omega))), by simp; omega, (World.grew_block _ _ _ (by simp; omega)).trans (alloc_three _ _ _ _), (World.grew_block _ _ _ (by simp)).trans (alloc_second _ _ _ _), (World.grew_block _ _ _ (by simp)).trans (alloc_third _ _ _ _)⟩ ?_
  clear e141
  intro V hV
  generalize hBd : w.heap.size = B at *
  have HBd := Lib.hid hBd
  have HV := Lib.hid hV
  have hVs := hV.size
  clear hBd hV
  generalize hL : min (max (st 141) 0) 1000 + 1 = L
  have HLo := Lib.hid (show lossOf st = L from hL)
  clear hL
  go_loopw [8, 28] (fun vs cnt wr => ∃ k : Nat, k ≤ c ∧ cnt = .int .i64 k ∧ LS w B (loseTo n nb L st k) s c wr ∧ Kd.R (Kd.slice 108 (Kd.int .i16)) 100 wr V.heap.size (fun _ => True) vs (soundsK st n L k) ∧ V.heap.size ≤ wr.heap.size) (fun _ cnt _ => c - (intOf cnt).toNat)
  case atStart => exact ⟨0, by omega, rfl, HV.out, Kd.R_nil _ _ _ _ _, Nat.le_refl _⟩
  case round =>
    obtain ⟨k, hk, rfl, hLS, hS, hsz⟩ := hrel
    have HLS := Lib.hid hLS
    have HS := Lib.hid hS
    have hws := hLS.size
    clear hLS hS
    by_cases hlt : k < c
    · have hlt' : (k : Int) < c := by omega
      have hk0 : (0 : Int) ≤ k := by omega
      have hk2 : (k : Int) < 2 := by omega
      have m1 := HLS.out.m1
      have n0 : (0 : Int) ≤ n := by omega
      have n32 : (n : Int) ≤ 32 := by omega
      have hpl := Lib.hid (fun W hC => plainL st n nb L k B W HL.out (by omega) hnb5 hC)
      go_wp2_with fail
      refine (hpl.out _ HLS.out.st (HT.out.below (HLS.out.below' (Nat.le_of_eq HBd.out)))).mono ?_
      rintro e w1 ⟨v1, rfl, hR1, hb1⟩
      obtain ⟨X, hX⟩ : ∃ X, madeF (histL st n k) L = X := ⟨_, rfl⟩
      have hXl : X.length = n := by rw [← hX, madeF_len, histL_len]
      rw [hX] at hR1
      obtain ⟨A, cx, rfl, hcx, hCx⟩ := Kd.R_reads hR1
      have HX := Lib.hid hX
      have HXl := Lib.hid hXl
      have HCx := Lib.hid hCx
      have hlt1 := HLS.out.keep hb1
      have HLS1 := Lib.hid hlt1
      have hS1 := Kd.R_below HS.out hb1
      have HS1 := Lib.hid hS1
      have hw1 : V.heap.size ≤ w1.heap.size := Nat.le_trans hsz hb1.size
      have hX32 : X.length ≤ 32 := by omega
      clear hX hXl hR1 hCx hb1 hlt1 hS1 HLS HS m1 hpl hws
      go_wp2_with fail
      go_loopw [11, 40] (fun vo cnt wr => ∃ i : Nat, i ≤ X.length ∧ cnt = .int .i64 i ∧ Kd.R (Kd.int .i16) 108 wr w1.heap.size (fun _ => True) vo ((X.take i).map sat16) ∧ Below w1.heap.size w1 wr) (fun _ cnt _ => X.length - (intOf cnt).toNat)
      case atStart => exact ⟨0, by omega, rfl, Kd.R_nil _ _ _ _ _, Below.refl _ _⟩
      case round =>
        obtain ⟨i, hi, rfl, hO, hB⟩ := hrel
        have HO := Lib.hid hO
        have HB := Lib.hid hB
        clear hO hB
        by_cases hlt2 : i < X.length
        · have hlt2' : (i : Int) < X.length := by omega
          have hi0 : (0 : Int) ≤ i := by omega
          obtain ⟨ad, rfl, hcl⟩ := Kd.at_int HCx.out i hi0 hlt2'
          rw [rd_nat, Int.toNat_natCast] at hcl
          have hcl := (HB.out.cell (World.block_lt_of_cell? w1 _ hcl)).trans hcl
          obtain ⟨hz1, hz2⟩ := madeF_bd (histL st n k) L i
          rw [HX.out] at hz1 hz2
          generalize hz : X.getD i 0 = z at *
          have HZ := Lib.hid hz
          have Hsat := Lib.hid (fun w => fix_Sat16.calls z _ w (sat16_eq z))
          clear hz
          go_wp2_with (first | (go_at_call 91; refine (Hsat.out _).mono ?_; rintro e wg ⟨rfl, hbg⟩; have HBG := Lib.hid hbg; clear hbg) | (at_builtin; refine Kd.R_append (Kd.int .i16) (w0 := w1) w1.heap.size rfl (.tmp 44) (.tmp 48) 100 108 (.int .i16 0) 2 rfl Tryd.underlying100 infoI16 rfl (by decide) (by omega) u11 ((X.take i).map sat16) (sat16 z) [.int .i16 (sat16 z)] (fun _ => True) (fun _ => False) rfl rfl ?aP (fun _ hk => hk.elim) ?aF ?aO ?aB ?aS ?aL ?_; (case aP => exact rfl); (case aF => exact (fun _ _ => trivial)); (case aO => exact Kd.R_below HO.out HBG.out); (case aB => exact (HB.out.trans (HBG.out.mono HB.out.size))); (case aS => exact Nat.le_trans HB.out.size HBG.out.size); (case aL => simp; omega); intro v2 w2 hO2 hB2 hgr hat; have HO2 := Lib.hid hO2; have HB2 := Lib.hid hB2; clear hO2 hB2 hgr hat))
          go_roundw
          case rel =>
            refine ⟨i + 1, by omega, rfl, ?_, HB2.out⟩
            have e := HO2.out
            rwa [← List.map_singleton (f := sat16), ← List.map_append, ← HZ.out, ← List.take_succ_eq_append_getElem' X i hlt2] at e
          case measure => simp [intOf]; omega
        · have hlt2' : ¬ (i : Int) < X.length := by omega
          obtain rfl : i = X.length := by omega
          rw [List.take_length] at HO
          obtain ⟨A2, l2, c2, rfl⟩ : ∃ A2 l2 c2, u11 = .slice A2 l2 c2 := by
            obtain ⟨A2, c2, h⟩ := Kd.R_slice HO.out
            exact ⟨_, _, _, h⟩
          have HLS2 := Lib.hid (HLS1.out.keep HB.out)
          have HS2 := Lib.hid (Kd.R_below HS1.out HB.out)
          have HCx2 := Lib.hid (Kd.C_below HCx.out HB.out)
          have hX0 : 0 < X.length := by have := HXl.out; omega
          have hw2 : V.heap.size ≤ wr.heap.size := Nat.le_trans hw1 HB.out.size
          go_wp2_with ((with_reducible refine gate_builtin (b := .copy) (xs := #[.tmp 54, .tmp 55]) rfl ?_); refine copy_bx rfl (.tmp 54) (.tmp 55) 43 43 rfl 21 Tryd.underlying43 (by kernel_rfl) B (74 + k * 32) 32 32 cx A .i32 X rfl rfl HCx2.out ?c1 ?c2 HLS2.out.st ?c3 ?c4 ?c5; (case c1 => exact hX0); (case c2 => exact hX32); (case c3 => omega); (case c4 => intro j h1 h2; unfold kS; rw [if_neg (by omega), if_pos (by omega)]); intro w3 ho3 hb3; have HO3 := Lib.hid ho3; have HB3 := Lib.hid hb3; clear ho3 hb3)
          have hls3 := HLS2.out.only HO3.out HB3.out
          have hcl : ∀ ty, (Builtin.clear_ #[43] ty #[.slice (some ⟨B, 10 + k * 32, none⟩) n 32]).run Tryd.prog w3 = .ok (.tuple #[]) (w3.setCells B (10 + k * 32) (List.replicate n (.int .i32 0))) := fun ty => Lib.run_clear_slice w3 43 21 ty (.int .i32 0) Tryd.underlying43 zeroI32 rfl rfl B (10 + k * 32) n 32 (by omega) (fun j hj => by rw [ag_cell hls3.st _ (by omega)]; rfl) (fun j hj => (block_facts hls3.st).2.1 _)
          have ho4 := only_setCells w3 B (10 + k * 32) (List.replicate n (.int .i32 0))
          have hb4 := bx_setCells hls3.st .i32 (10 + k * 32) (List.replicate n 0) (by simp; omega) (fun j h1 h2 => by simp at h2; unfold kS; rw [if_neg (by omega), if_pos (by omega)])
          rw [List.map_replicate] at hb4
          generalize w3.setCells B (10 + k * 32) (List.replicate n (.int .i32 0)) = w4 at *
          have hls4 := hls3.only ho4 hb4
          have d1 := ag_cell hb4 (138 + k) (by omega)
          have d2 := (block_facts hb4).2.1 (138 + k)
          rw [show kS (138 + k) = .i32 from by unfold kS; rw [if_neg (by omega), if_pos (by omega)]] at d1
          have ho5 := only_setCell w4 ⟨B, 138 + k, none⟩ (.int .i32 0)
          have hb5 := ag_store hb4 (138 + k) (by omega) 0
          rw [show kS (138 + k) = .i32 from by unfold kS; rw [if_neg (by omega), if_pos (by omega)]] at hb5
          have HLS5 := Lib.hid (hls4.only ho5 hb5)
          have hoW : Only B wr (w4.setCell ⟨B, 138 + k, none⟩ (.int .i32 0)) := (HO3.out.trans ho4).trans ho5
          have hSW := R_only HS2.out hoW (by omega)
          have hxW := R_only HO.out hoW (by have := HLS1.out.size; omega)
          obtain ⟨inner, hin⟩ := Kd.R_own HS1.out
          have hxW2 := Kd.R_lower (Kd.R_new hxW hin) hw1
          have HSW := Lib.hid hSW
          have HXW := Lib.hid hxW2
          have HOW := Lib.hid hoW
          have hsW : V.heap.size ≤ (w4.setCell ⟨B, 138 + k, none⟩ (.int .i32 0)).heap.size := by rw [hoW.size]; exact hw2
          have HSz := Lib.hid hsW
          clear hls3 ho4 hls4 ho5 hb5 hoW hSW hxW hxW2 hin hb4 hsW HO HB HLS1 HS1 HCx HLS2 HS2 HCx2
          go_wp2_with (first | (simp only [hcl]) | ((with_reducible refine gate_builtin (b := .append) (xs := #[.tmp 65, .tmp 67]) rfl ?_); at_builtin; refine Kd.R_append (Kd.slice 108 (Kd.int .i16)) (w0 := w4.setCell ⟨B, 138 + k, none⟩ (.int .i32 0)) V.heap.size rfl (.tmp 65) (.tmp 67) 166 100 (.slice none 0 0) 24 rfl Tryd.underlying166 info_sl rfl (by decide) (by omega) u8 (soundsK st n L k) (X.map sat16) [.slice A2 l2 c2] (fun _ => True) (fun b => True ∧ some b ≠ u8.ownBlock) rfl (Eq.trans (b := Value.slice (some ⟨w4.heap.size, 0, none⟩) 1 1) rfl (by simp)) ?aP ?aQ ?aF ?aO ?aB ?aS ?aL ?_; (case aP => exact ⟨_, rfl, HXW.out⟩); (case aQ => exact fun _ h => h); (case aF => exact (fun _ _ => trivial)); (case aO => exact HSW.out); (case aB => exact Below.refl _ _); (case aS => exact HSz.out); (case aL => simp [soundsK]; omega); intro v5 w5 hS5 hB5 hgr hat; have HS5 := Lib.hid hS5; have HLS6 := Lib.hid (HLS5.out.keepB hB5 hVs); have hs5 := Nat.le_trans HSz.out hB5.size; have m0 := HLS6.out.m0; have m1 := HLS6.out.m1; clear hS5 hB5 hgr hat) | (go_at_call 53; refine (hBn.out _).mono ?_; rintro e w6 ⟨rfl, hb6⟩))
          generalize hf5 : updI (overF (overF (loseTo n nb L st k) (74 + k * 32) X) (10 + k * 32) (List.replicate n 0)) (138 + k) 0 = f5 at HLS6
          have hE5 : ∀ j, j < 10 → f5 j ≤ 9223372036854775807 := fun j hj => by
            rw [← hf5]
            unfold updI overF
            rw [if_neg (by omega), if_neg (by omega), if_neg (by omega)]
            exact loseTo_E n nb L st hst.out k j hj
          have HF5 := Lib.hid hf5
          have HE5 := Lib.hid hE5
          clear hf5 hE5 m0 m1 hcl d1 d2
          have hls7 := HLS6.out.keep hb6
          have hs7 := Kd.R_below HS5.out hb6
          have hz7 := Nat.le_trans hs5 hb6.size
          have HLS7 := Lib.hid hls7
          have HS7 := Lib.hid hs7
          clear hls7 hs7 HLS6 HS5 hb6 hs5 HSW HXW HOW HSz HO3 HB3 HLS5
          go_loopw [71] (fun cnt wr => ∃ b : Nat, b ≤ nb ∧ cnt = .int .i64 b ∧ LS w B (eTo f5 k b) s c wr ∧ Kd.R (Kd.slice 108 (Kd.int .i16)) 100 wr V.heap.size (fun _ => True) v5 (soundsK st n L k ++ [X.map sat16]) ∧ V.heap.size ≤ wr.heap.size) (fun cnt _ => nb - (intOf cnt).toNat)
          case atStart => exact ⟨0, by omega, rfl, HLS7.out.ext (fun j hj => by unfold eTo; rw [if_neg (by omega)]), HS7.out, hz7⟩
          case round =>
            obtain ⟨b, hb, rfl, hls, hs8, hz8⟩ := hrel
            have HLS8 := Lib.hid hls
            have HS8 := Lib.hid hs8
            have hwB := hls.size
            clear hls hs8
            by_cases hlt3 : b < nb
            · have hlt3' : (b : Int) < nb := by omega
              have hb0 : (0 : Int) ≤ b := by omega
              have hb5 : (b : Int) < 5 := by omega
              have r0 := ag_cell HLS8.out.st (k * 5 + b) (by omega)
              have r1 := (block_facts HLS8.out.st).2.1 (k * 5 + b)
              rw [show kS (k * 5 + b) = .i64 from by unfold kS; rw [if_pos (by omega)], show eTo f5 k b (k * 5 + b) = f5 (k * 5 + b) from by unfold eTo; rw [if_neg (by omega)]] at r0
              have hy := HE5.out (k * 5 + b) (by omega)
              generalize hyy : f5 (k * 5 + b) = y at r0 hy
              have HY := Lib.hid hyy
              have hwBB : B < wr.heap.size := by omega
              clear hyy
              go_wp2_with fail
              refine wp_region_inv [] (fun W => Below wr.heap.size wr W) (fun W W' => Below W.heap.size W W') 13 (by kernel_rfl) (by kernel_rfl) (by kernel_rfl) ((Below.refl _ _).drew) (fun W W' h h' => h.trans (h'.mono h.size)) (fun _ _ h => h.size) ?_
              simp only [List.take_succ_cons, List.take_zero, List.drop_succ_cons, List.drop_zero]
              refine wpInv_det (by kernel_rfl) (by kernel_rfl) ?_
              apply Exists.intro
              refine ⟨?_, ?_, ?_⟩
              · intro U W hC hH
                have hc1 := (bcell hC).1
                have hf1 := (bcell hC).2
                simp only [HypsU, predsOf, Region.binds, List.filterMap_cons, List.filterMap_nil, if_true, List.nil_append, List.cons_append, List.getD_cons_zero, List.getD_cons_succ] at hH
                simp only [fillPuts, Act.put, List.setIfInBounds_toArray, List.set_cons_zero, List.set_cons_succ, Nat.reduceAdd]
                go_wp2_with fail
                refine ⟨rfl, rfl, by (repeat' (first | (with_reducible exact Below.refl _ _) | (with_reducible assumption) | (with_reducible refine Below.alloc ?_ ?_ _) | (with_reducible refine below_grew ?_ ?_ _) | (with_reducible refine Below.setCell ?_ ?_ _) | (with_reducible refine Below.drew ?_) | (with_reducible refine below_drewN ?_ _) | omega | (simp; done) | (simp; omega))), ?_⟩
                conv => lhs; whnf
                try rfl
              · exact fun _ => rfl
              simp only [List.nil_append, List.cons_append, Nat.reduceAdd]
              refine wpInv_det (by kernel_rfl) (by kernel_rfl) ?_
              apply Exists.intro
              refine ⟨?_, ?_, ?_⟩
              · intro U W hC hH
                have hc1 := (bcell hC).1
                have hf1 := (bcell hC).2
                simp only [HypsU, predsOf, Region.binds, List.filterMap_cons, List.filterMap_nil, if_true, List.nil_append, List.cons_append, List.getD_cons_zero, List.getD_cons_succ] at hH
                simp only [fillPuts, Act.put, List.setIfInBounds_toArray, List.set_cons_zero, List.set_cons_succ, Nat.reduceAdd]
                go_wp2_with fail
                refine ⟨rfl, rfl, by (repeat' (first | (with_reducible exact Below.refl _ _) | (with_reducible assumption) | (with_reducible refine Below.alloc ?_ ?_ _) | (with_reducible refine below_grew ?_ ?_ _) | (with_reducible refine Below.setCell ?_ ?_ _) | (with_reducible refine Below.drew ?_) | (with_reducible refine below_drewN ?_ _) | omega | (simp; done) | (simp; omega))), ?_⟩
                conv => lhs; whnf
                try rfl
              · exact fun _ => rfl
              simp only [List.nil_append, List.cons_append, Nat.reduceAdd]
              refine wpInv_det (by kernel_rfl) (by kernel_rfl) ?_
              apply Exists.intro
              refine ⟨?_, ?_, ?_⟩
              · intro U W hC hH
                have hc1 := (bcell hC).1
                have hf1 := (bcell hC).2
                simp only [HypsU, predsOf, Region.binds, List.filterMap_cons, List.filterMap_nil, if_true, List.nil_append, List.cons_append, List.getD_cons_zero, List.getD_cons_succ] at hH
                simp only [fillPuts, Act.put, List.setIfInBounds_toArray, List.set_cons_zero, List.set_cons_succ, Nat.reduceAdd]
                go_wp2_with fail
                refine ⟨rfl, rfl, by (repeat' (first | (with_reducible exact Below.refl _ _) | (with_reducible assumption) | (with_reducible refine Below.alloc ?_ ?_ _) | (with_reducible refine below_grew ?_ ?_ _) | (with_reducible refine Below.setCell ?_ ?_ _) | (with_reducible refine Below.drew ?_) | (with_reducible refine below_drewN ?_ _) | omega | (simp; done) | (simp; omega))), ?_⟩
                conv => lhs; whnf
                try rfl
              · exact fun _ => rfl
              simp only [List.nil_append, List.cons_append, Nat.reduceAdd]
              refine wpInv_det (by kernel_rfl) (by kernel_rfl) ?_
              apply Exists.intro
              refine ⟨?_, ?_, ?_⟩
              · intro U W hC hH
                have hc1 := (bcell hC).1
                have hf1 := (bcell hC).2
                simp only [HypsU, predsOf, Region.binds, List.filterMap_cons, List.filterMap_nil, if_true, List.nil_append, List.cons_append, List.getD_cons_zero, List.getD_cons_succ] at hH
                simp only [fillPuts, Act.put, List.setIfInBounds_toArray, List.set_cons_zero, List.set_cons_succ, Nat.reduceAdd]
                go_wp2_with fail
                refine ⟨rfl, rfl, by (repeat' (first | (with_reducible exact Below.refl _ _) | (with_reducible assumption) | (with_reducible refine Below.alloc ?_ ?_ _) | (with_reducible refine below_grew ?_ ?_ _) | (with_reducible refine Below.setCell ?_ ?_ _) | (with_reducible refine Below.drew ?_) | (with_reducible refine below_drewN ?_ _) | omega | (simp; done) | (simp; omega))), ?_⟩
                conv => lhs; whnf
                try rfl
              · exact fun _ => rfl
              simp only [List.nil_append, List.cons_append, Nat.reduceAdd]
              refine wpInv_det (by kernel_rfl) (by kernel_rfl) ?_
              apply Exists.intro
              refine ⟨?_, ?_, ?_⟩
              · intro U W hC hH
                have hc1 := (bcell hC).1
                have hf1 := (bcell hC).2
                simp only [HypsU, predsOf, Region.binds, List.filterMap_cons, List.filterMap_nil, if_true, List.nil_append, List.cons_append, List.getD_cons_zero, List.getD_cons_succ] at hH
                simp only [fillPuts, Act.put, List.setIfInBounds_toArray, List.set_cons_zero, List.set_cons_succ, Nat.reduceAdd]
                go_wp2_with fail
                refine ⟨rfl, rfl, by (repeat' (first | (with_reducible exact Below.refl _ _) | (with_reducible assumption) | (with_reducible refine Below.alloc ?_ ?_ _) | (with_reducible refine below_grew ?_ ?_ _) | (with_reducible refine Below.setCell ?_ ?_ _) | (with_reducible refine Below.drew ?_) | (with_reducible refine below_drewN ?_ _) | omega | (simp; done) | (simp; omega))), ?_⟩
                conv => lhs; whnf
                try rfl
              · exact fun _ => rfl
              simp only [List.nil_append, List.cons_append, Nat.reduceAdd]
              refine wpInv_det (by kernel_rfl) (by kernel_rfl) ?_
              apply Exists.intro
              refine ⟨?_, ?_, ?_⟩
              · intro U W hC hH
                have hc1 := (bcell hC).1
                have hf1 := (bcell hC).2
                simp only [HypsU, predsOf, Region.binds, List.filterMap_cons, List.filterMap_nil, if_true, List.nil_append, List.cons_append, List.getD_cons_zero, List.getD_cons_succ] at hH
                simp only [fillPuts, Act.put, List.setIfInBounds_toArray, List.set_cons_zero, List.set_cons_succ, Nat.reduceAdd]
                go_wp2_with fail
                refine ⟨rfl, rfl, by (repeat' (first | (with_reducible exact Below.refl _ _) | (with_reducible assumption) | (with_reducible refine Below.alloc ?_ ?_ _) | (with_reducible refine below_grew ?_ ?_ _) | (with_reducible refine Below.setCell ?_ ?_ _) | (with_reducible refine Below.drew ?_) | (with_reducible refine below_drewN ?_ _) | omega | (simp; done) | (simp; omega))), ?_⟩
                conv => lhs; whnf
                try rfl
              · exact fun _ => rfl
              simp only [List.nil_append, List.cons_append, Nat.reduceAdd]
              refine wpInv_det (by kernel_rfl) (by kernel_rfl) ?_
              apply Exists.intro
              refine ⟨?_, ?_, ?_⟩
              · intro U W hC hH
                have hc1 := (bcell hC).1
                have hf1 := (bcell hC).2
                simp only [HypsU, predsOf, Region.binds, List.filterMap_cons, List.filterMap_nil, if_true, List.nil_append, List.cons_append, List.getD_cons_zero, List.getD_cons_succ] at hH
                simp only [fillPuts, Act.put, List.setIfInBounds_toArray, List.set_cons_zero, List.set_cons_succ, Nat.reduceAdd]
                go_wp2_with fail
                refine ⟨rfl, rfl, by (repeat' (first | (with_reducible exact Below.refl _ _) | (with_reducible assumption) | (with_reducible refine Below.alloc ?_ ?_ _) | (with_reducible refine below_grew ?_ ?_ _) | (with_reducible refine Below.setCell ?_ ?_ _) | (with_reducible refine Below.drew ?_) | (with_reducible refine below_drewN ?_ _) | omega | (simp; done) | (simp; omega))), ?_⟩
                conv => lhs; whnf
                try rfl
              · exact fun _ => rfl
              simp only [List.nil_append, List.cons_append, Nat.reduceAdd]
              refine wpInv_det (by kernel_rfl) (by kernel_rfl) ?_
              apply Exists.intro
              refine ⟨?_, ?_, ?_⟩
              · intro U W hC hH
                have hc1 := (bcell hC).1
                have hf1 := (bcell hC).2
                simp only [HypsU, predsOf, Region.binds, List.filterMap_cons, List.filterMap_nil, if_true, List.nil_append, List.cons_append, List.getD_cons_zero, List.getD_cons_succ] at hH
                simp only [fillPuts, Act.put, List.setIfInBounds_toArray, List.set_cons_zero, List.set_cons_succ, Nat.reduceAdd]
                go_wp2_with fail
                refine ⟨rfl, rfl, by (repeat' (first | (with_reducible exact Below.refl _ _) | (with_reducible assumption) | (with_reducible refine Below.alloc ?_ ?_ _) | (with_reducible refine below_grew ?_ ?_ _) | (with_reducible refine Below.setCell ?_ ?_ _) | (with_reducible refine Below.drew ?_) | (with_reducible refine below_drewN ?_ _) | omega | (simp; done) | (simp; omega))), ?_⟩
                conv => lhs; whnf
                try rfl
              · exact fun _ => rfl
              simp only [List.nil_append, List.cons_append, Nat.reduceAdd]
              refine wpInv_det (by kernel_rfl) (by kernel_rfl) ?_
              apply Exists.intro
              refine ⟨?_, ?_, ?_⟩
              · intro U W hC hH
                have hc1 := (bcell hC).1
                have hf1 := (bcell hC).2
                simp only [HypsU, predsOf, Region.binds, List.filterMap_cons, List.filterMap_nil, if_true, List.nil_append, List.cons_append, List.getD_cons_zero, List.getD_cons_succ] at hH
                simp only [fillPuts, Act.put, List.setIfInBounds_toArray, List.set_cons_zero, List.set_cons_succ, Nat.reduceAdd]
                go_wp2_with fail
                refine ⟨rfl, rfl, by (repeat' (first | (with_reducible exact Below.refl _ _) | (with_reducible assumption) | (with_reducible refine Below.alloc ?_ ?_ _) | (with_reducible refine below_grew ?_ ?_ _) | (with_reducible refine Below.setCell ?_ ?_ _) | (with_reducible refine Below.drew ?_) | (with_reducible refine below_drewN ?_ _) | omega | (simp; done) | (simp; omega))), ?_⟩
                conv => lhs; whnf
                try rfl
              · exact fun _ => rfl
              simp only [List.nil_append, List.cons_append, Nat.reduceAdd]
              refine wpInv_det (by kernel_rfl) (by kernel_rfl) ?_
              apply Exists.intro
              refine ⟨?_, ?_, ?_⟩
              · intro U W hC hH
                have hc1 := (bcell hC).1
                have hf1 := (bcell hC).2
                simp only [HypsU, predsOf, Region.binds, List.filterMap_cons, List.filterMap_nil, if_true, List.nil_append, List.cons_append, List.getD_cons_zero, List.getD_cons_succ] at hH
                simp only [fillPuts, Act.put, List.setIfInBounds_toArray, List.set_cons_zero, List.set_cons_succ, Nat.reduceAdd]
                go_wp2_with fail
                refine ⟨rfl, rfl, by (repeat' (first | (with_reducible exact Below.refl _ _) | (with_reducible assumption) | (with_reducible refine Below.alloc ?_ ?_ _) | (with_reducible refine below_grew ?_ ?_ _) | (with_reducible refine Below.setCell ?_ ?_ _) | (with_reducible refine Below.drew ?_) | (with_reducible refine below_drewN ?_ _) | omega | (simp; done) | (simp; omega))), ?_⟩
                conv => lhs; whnf
                try rfl
              · exact fun _ => rfl
              simp only [List.nil_append, List.cons_append, Nat.reduceAdd]
              refine wpInv_det (by kernel_rfl) (by kernel_rfl) ?_
              apply Exists.intro
              refine ⟨?_, ?_, ?_⟩
              · intro U W hC hH
                have hc1 := (bcell hC).1
                have hf1 := (bcell hC).2
                simp only [HypsU, predsOf, Region.binds, List.filterMap_cons, List.filterMap_nil, if_true, List.nil_append, List.cons_append, List.getD_cons_zero, List.getD_cons_succ] at hH
                simp only [fillPuts, Act.put, List.setIfInBounds_toArray, List.set_cons_zero, List.set_cons_succ, Nat.reduceAdd]
                go_wp2_with fail
                refine ⟨rfl, rfl, by (repeat' (first | (with_reducible exact Below.refl _ _) | (with_reducible assumption) | (with_reducible refine Below.alloc ?_ ?_ _) | (with_reducible refine below_grew ?_ ?_ _) | (with_reducible refine Below.setCell ?_ ?_ _) | (with_reducible refine Below.drew ?_) | (with_reducible refine below_drewN ?_ _) | omega | (simp; done) | (simp; omega))), ?_⟩
                conv => lhs; whnf
                try rfl
              · exact fun _ => rfl
              simp only [List.nil_append, List.cons_append, Nat.reduceAdd]
              refine wpInv_det (by kernel_rfl) (by kernel_rfl) ?_
              apply Exists.intro
              refine ⟨?_, ?_, ?_⟩
              · intro U W hC hH
                have hc1 := (bcell hC).1
                have hf1 := (bcell hC).2
                simp only [HypsU, predsOf, Region.binds, List.filterMap_cons, List.filterMap_nil, if_true, List.nil_append, List.cons_append, List.getD_cons_zero, List.getD_cons_succ] at hH
                simp only [fillPuts, Act.put, List.setIfInBounds_toArray, List.set_cons_zero, List.set_cons_succ, Nat.reduceAdd]
                go_wp2_with fail
                refine ⟨rfl, rfl, by (repeat' (first | (with_reducible exact Below.refl _ _) | (with_reducible assumption) | (with_reducible refine Below.alloc ?_ ?_ _) | (with_reducible refine below_grew ?_ ?_ _) | (with_reducible refine Below.setCell ?_ ?_ _) | (with_reducible refine Below.drew ?_) | (with_reducible refine below_drewN ?_ _) | omega | (simp; done) | (simp; omega))), ?_⟩
                conv => lhs; whnf
                try rfl
              · exact fun _ => rfl
              simp only [List.nil_append, List.cons_append, Nat.reduceAdd]
              refine wpInv_det (by kernel_rfl) (by kernel_rfl) ?_
              apply Exists.intro
              refine ⟨?_, ?_, ?_⟩
              · intro U W hC hH
                have hc1 := (bcell hC).1
                have hf1 := (bcell hC).2
                simp only [HypsU, predsOf, Region.binds, List.filterMap_cons, List.filterMap_nil, if_true, List.nil_append, List.cons_append, List.getD_cons_zero, List.getD_cons_succ] at hH
                simp only [fillPuts, Act.put, List.setIfInBounds_toArray, List.set_cons_zero, List.set_cons_succ, Nat.reduceAdd]
                go_wp2_with fail
                refine ⟨rfl, rfl, by (repeat' (first | (with_reducible exact Below.refl _ _) | (with_reducible assumption) | (with_reducible refine Below.alloc ?_ ?_ _) | (with_reducible refine below_grew ?_ ?_ _) | (with_reducible refine Below.setCell ?_ ?_ _) | (with_reducible refine Below.drew ?_) | (with_reducible refine below_drewN ?_ _) | omega | (simp; done) | (simp; omega))), ?_⟩
                conv => lhs; whnf
                try rfl
              · exact fun _ => rfl
              simp only [List.nil_append, List.cons_append, Nat.reduceAdd]
              simp only [List.nil_append, List.cons_append, Nat.reduceAdd, fillPuts, Act.put, List.setIfInBounds_toArray, List.set_cons_zero, List.set_cons_succ]
              rintro U W2 hC ⟨h0, h1, h2, h3, h4, h5, h6, h7, h8, h9, h10, h11, h12, -⟩ -
              simp only [h0, h1, h2, h3, h4, h5, h6, h7, h8, h9, h10, h11, h12]
              clear h0 h1 h2 h3 h4 h5 h6 h7 h8 h9 h10 h11 h12
              have hls9 := HLS8.out.keep hC
              have HS9 := Lib.hid (Kd.R_below HS8.out hC)
              have hz9 := Nat.le_trans hz8 hC.size
              have q0 := ag_cell hls9.st (k * 5 + b) (by omega)
              have q1 := (block_facts hls9.st).2.1 (k * 5 + b)
              have HLS9 := Lib.hid hls9
              clear hC r0 r1 hls9 HLS8 HS8
              go_wp2_with fail
              go_roundw
              case rel =>
                have ho := only_setCell W2 ⟨B, k * 5 + b, none⟩ (.int .i64 (max y 2 - 2))
                have hbx := ag_store HLS9.out.st (k * 5 + b) (by omega) (max y 2 - 2)
                rw [show kS (k * 5 + b) = .i64 from by unfold kS; rw [if_pos (by omega)]] at hbx
                refine ⟨b + 1, by omega, rfl, (HLS9.out.only ho hbx).ext (fun j hj => ?_), R_only HS9.out ho (show B < V.heap.size by omega), by rw [ho.size]; exact hz9⟩
                unfold updI eTo
                by_cases e : j = k * 5 + b
                · rw [if_pos e, if_pos (by omega), e, HY.out]
                · rw [if_neg e]
                  by_cases e2 : k * 5 ≤ j ∧ j < k * 5 + b
                  · rw [if_pos e2, if_pos (by omega)]
                  · rw [if_neg e2, if_neg (by omega)]
              case measure => simp [intOf]; omega
            · have hlt3' : ¬ (b : Int) < nb := by omega
              obtain rfl : b = nb := by omega
              go_wp2_with fail
              go_roundw
              case rel =>
                refine ⟨k + 1, by omega, rfl, HLS8.out.ext (fun j hj => ?_), ?_, hz8⟩
                · rw [← HF5.out]
                  exact eTo_lose n b L st k X HXl.out (by omega) (by omega) (by omega) HX.out j
                · have := HS8.out
                  unfold soundsK at this ⊢
                  rw [List.range_succ, List.map_append]
                  rw [← HX.out] at this
                  exact this
              case measure => simp [intOf]; omega
    · have hlt' : ¬ (k : Int) < c := by omega
      obtain rfl : k = c := by omega
      have m1 := HLS.out.m1
      have d1 := ag_cell HLS.out.st 140 (by omega)
      rw [show kS 140 = .u32 from rfl, loseTo_high n nb L st (by omega) (by omega) 140 (by omega) k (by omega)] at d1
      go_wp2_with (go_at_call 92; refine (fix_Lcg.calls _ _ _ rfl).mono ?_; rintro e wl ⟨rfl, hdl⟩; have hls10 := HLS.out.keep hdl.below; have q0 := ag_cell hls10.st 140 (by omega); have q1 := ag_cell hls10.st 141 (by omega); have q2 := (block_facts hls10.st).2.1 140; have q3 := (block_facts hls10.st).2.1 141; have HLS10 := Lib.hid hls10; have HS10 := Lib.hid (Kd.R_below HS.out hdl.below); have hz10 := Nat.le_trans hsz hdl.below.size; clear hls10 hdl)
      have ho := (only_setCell wl ⟨B, 140, none⟩ (.int .u32 ((st 140 * 1664525 + 1013904223) % 4294967296))).setCell (.int .i64 (min L 1000)) (p := ⟨B, 141, none⟩)
      have hbx := ag_store (ag_store HLS10.out.st 140 (by omega) ((st 140 * 1664525 + 1013904223) % 4294967296)) 141 (by omega) (min L 1000)
      have hls11 := (HLS10.out.only ho hbx).ext (f' := loseF s k st) (fun j hj => by
        unfold loseF updI
        rw [HLo.out, Hn.out, Hnb.out]
        by_cases e1 : j = 141
        · rw [if_pos e1, if_neg (by omega), if_pos e1]
        · rw [if_neg e1]
          by_cases e2 : j = 140
          · rw [if_pos e2, if_pos e2]
          · rw [if_neg e2, if_neg e2, if_neg e1]; rfl)
      refine cut_world (fun W => LS w B (loseF s k st) s k W ∧ Kd.R (Kd.slice 108 (Kd.int .i16)) 100 W V.heap.size (fun _ => True) u8 (soundsK st n L k) ∧ V.heap.size ≤ W.heap.size) ⟨hls11, R_only HS10.out ho (show B < V.heap.size by omega), by rw [ho.size]; exact hz10⟩ ?_
      clear ho hbx hls11 q0 q1 q2 q3 HLS10 HS10 hz10 d1 m1 HLS HS
      rintro Z ⟨hls, hS, hz⟩
      obtain ⟨A3, c3, rfl, hc3, hC3⟩ := Kd.R_reads hS
      have HLS := Lib.hid hls
      have HC3 := Lib.hid hC3
      have hmx := Lib.hid (fun W hC => state_mix.calls 200 A3 c3 (soundsK st n L k) n (mixF (soundsK st n L k) n) W hC hc3 (mix_f _ n (soundsK_len st n L k) (by simp [soundsK]; omega) (by omega)))
      clear hls hS hC3
      refine wp_region_inv [] (fun W => Below Z.heap.size Z W) (fun W W' => Below W.heap.size W W') 4 (by kernel_rfl) (by kernel_rfl) (by kernel_rfl) ((Below.refl _ _).drew) (fun W W' h h' => h.trans (h'.mono h.size)) (fun _ _ h => h.size) ?_
      simp only [List.take_succ_cons, List.take_zero, List.drop_succ_cons, List.drop_zero]
      refine wpInv_det (by kernel_rfl) (by kernel_rfl) ?_
      apply Exists.intro
      refine ⟨?_, ?_, ?_⟩
      · intro U W hC hH
        have hc1 := (bcell hC).1
        have hf1 := (bcell hC).2
        simp only [HypsU, predsOf, Region.binds, List.filterMap_cons, List.filterMap_nil, if_true, List.nil_append, List.cons_append, List.getD_cons_zero, List.getD_cons_succ] at hH
        simp only [fillPuts, Act.put, List.setIfInBounds_toArray, List.set_cons_zero, List.set_cons_succ, Nat.reduceAdd]
        go_wp2_with (refine wpList_load_row rfl St _ rfl B rfl _ (ag kS 142 (loseF s k st)) (0, 0) _ (HLS.out.keep hC).st Tryd.underlying97 rfl ?hin ?_; (case hin => exact infoS_ag _))
        refine ⟨rfl, rfl, by (repeat' (first | (with_reducible exact Below.refl _ _) | (with_reducible assumption) | (with_reducible refine Below.alloc ?_ ?_ _) | (with_reducible refine below_grew ?_ ?_ _) | (with_reducible refine Below.setCell ?_ ?_ _) | (with_reducible refine Below.drew ?_) | (with_reducible refine below_drewN ?_ _) | omega | (simp; done) | (simp; omega))), ?_⟩
        conv => lhs; whnf
        try rfl
      · exact fun _ => rfl
      simp only [List.nil_append, List.cons_append, Nat.reduceAdd]
      refine wpInv_det (by kernel_rfl) (by kernel_rfl) ?_
      apply Exists.intro
      refine ⟨?_, ?_, ?_⟩
      · intro U W hC hH
        have hc1 := (bcell hC).1
        have hf1 := (bcell hC).2
        simp only [HypsU, predsOf, Region.binds, List.filterMap_cons, List.filterMap_nil, if_true, List.nil_append, List.cons_append, List.getD_cons_zero, List.getD_cons_succ] at hH
        simp only [fillPuts, Act.put, List.setIfInBounds_toArray, List.set_cons_zero, List.set_cons_succ, Nat.reduceAdd]
        go_wp2_with fail
        refine ⟨rfl, rfl, by (repeat' (first | (with_reducible exact Below.refl _ _) | (with_reducible assumption) | (with_reducible refine Below.alloc ?_ ?_ _) | (with_reducible refine below_grew ?_ ?_ _) | (with_reducible refine Below.setCell ?_ ?_ _) | (with_reducible refine Below.drew ?_) | (with_reducible refine below_drewN ?_ _) | omega | (simp; done) | (simp; omega))), ?_⟩
        conv => lhs; whnf
        try rfl
      · exact fun _ => rfl
      simp only [List.nil_append, List.cons_append, Nat.reduceAdd]
      refine wpInv_det (by kernel_rfl) (by kernel_rfl) ?_
      apply Exists.intro
      refine ⟨?_, ?_, ?_⟩
      · intro U W hC hH
        have hc1 := (bcell hC).1
        have hf1 := (bcell hC).2
        simp only [HypsU, predsOf, Region.binds, List.filterMap_cons, List.filterMap_nil, if_true, List.nil_append, List.cons_append, List.getD_cons_zero, List.getD_cons_succ] at hH
        simp only [fillPuts, Act.put, List.setIfInBounds_toArray, List.set_cons_zero, List.set_cons_succ, Nat.reduceAdd]
        go_wp2_with fail
        refine ⟨rfl, rfl, by (repeat' (first | (with_reducible exact Below.refl _ _) | (with_reducible assumption) | (with_reducible refine Below.alloc ?_ ?_ _) | (with_reducible refine below_grew ?_ ?_ _) | (with_reducible refine Below.setCell ?_ ?_ _) | (with_reducible refine Below.drew ?_) | (with_reducible refine below_drewN ?_ _) | omega | (simp; done) | (simp; omega))), ?_⟩
        conv => lhs; whnf
        try rfl
      · exact fun _ => rfl
      simp only [List.nil_append, List.cons_append, Nat.reduceAdd]
      refine ⟨fun U W => ∃ v, U 3 = v ∧ Kd.R (Kd.int .i16) 108 W Z.heap.size (fun _ => True) v (mixF (soundsK st n L k) n), fun _ _ => rfl, ?_, ?_, ?_⟩
      · rintro U W W' hC hT ⟨v, h0, hv⟩
        exact ⟨v, h0, Kd.R_below hv hT⟩
      · intro U W hC hH
        simp only [HypsU, predsOf, Region.binds, List.filterMap_cons, List.filterMap_nil, if_true, List.nil_append, List.cons_append, List.getD_cons_zero, List.getD_cons_succ] at hH
        simp only [fillPuts, Act.put, List.setIfInBounds_toArray, List.set_cons_zero, List.set_cons_succ, Nat.reduceAdd]
        go_wp2_with fail
        refine (hmx.out _ (Kd.C_below HC3.out hC)).mono ?_
        rintro e W' ⟨v, rfl, hv, hb⟩
        go_wp2_with fail
        refine ⟨rfl, rfl, hb, ⟨v, updU_eq _ _ _, Kd.R_lower hv hC.size⟩, fun h => by cases h⟩
      simp only [List.nil_append, List.cons_append, Nat.reduceAdd, fillPuts, Act.put, List.setIfInBounds_toArray, List.set_cons_zero, List.set_cons_succ]
      rintro U W hC ⟨h0, h1, h2, ⟨v, h3, hv⟩, -⟩ -
      simp only [h0, h1, h2, h3]
      clear h0 h1 h2 h3
      have hls := HLS.out.keep hC
      have hzW := Nat.le_trans hz hC.size
      have HLW := Lib.hid hls
      have HV := Lib.hid hv
      clear hls hC hv hmx
      go_wp2_with (refine wpList_store_mid rfl St _ _ rfl (B + 1 + 1) 0 (ag kS 142 (loseF s k st)) rfl rfl ?hth ?hin ?hon ?_; (case hth => exact there_row HLW.out.rz _ (zeroS_le _)); (case hin => exact infoS_ag _); (case hon => exact ag_one kS 142 _))
      have ho := only_setCells W (B + 1 + 1) 0 (ag kS 142 (loseF s k st)).toList
      have q1 := cells_all HLW.out.rz (N := 142) zeroS_size (cs := ag kS 142 (loseF s k st)) (ag_size _ _ _)
      have hfin : Below w.heap.size w (W.setCells (B + 1 + 1) 0 (ag kS 142 (loseF s k st)).toList) := ho.below (HLW.out.below' (Nat.le_of_eq HBd.out)) (by rw [HBd.out]; omega)
      refine bodyPost_ret (v := .tuple #[.agg (ag kS 142 (loseF s k st)), v]) ?_ rfl ⟨v, rfl, ?_, hfin⟩
      · exact results_row_tmp rfl _ _ (B + 1 + 1) _ _ _ _ v rfl rfl q1 Tryd.underlying97 rfl (infoS_ag _)
      · rw [HBd.out]
        have := R_lowT (R_only HV.out ho (by omega)) (show B ≤ Z.heap.size by omega)
        rw [← Hn.out, ← HLo.out] at this
        exact this
end Go.Proofs.YtcibajleknhklaaDoor
end

section
namespace Go.Proofs.YtcibajleknhklaaDoor
open Go.RowKit Go.BigFrame Go.Proofs.YtcibajleknhklaaDoorW.PrintWords Go.Proofs.YtcibajleknhklaaDoorW.PrintLast Go.Proofs.YtcibajleknhklaaDoorW.PrintMore
open PStateTells RStateTells
set_option linter.unusedSimpArgs false
set_option linter.unusedVariables false
abbrev T64 := 93
section
variable {P : Program} {ops : Array Oper} {rest : List Oper} {o : Oper} {a : Act} {Q : Exit → Act → World → Prop}
/-- copy(block[off:off+dLen], row[..]) from a block whose cells are known; the source is at least as long. -/
theorem copy_bxe {w : World} (hgd : o.guard = none) (d s : Operand) (dT sT : TypeId) (ho : o.op = .call { callee := .builtin .copy, args := #[d, s], argTypes := #[dT, sT] })
    (elem : TypeId) (hu : P.underlying dT = some (.slice elem)) (hsz : (P.info? elem).map (·.size) = some 1) (B off dLen dCap C so sLen sCap : Nat) (κ : IntKind) (g : Nat → Int)
    (hd : a.eval d = .slice (some ⟨B, off, none⟩) dLen dCap) (hs : a.eval s = .slice (some ⟨C, so, none⟩) sLen sCap) (hx : ∀ i, i < dLen → w.cell? ⟨C, so + i, none⟩ = some (.int κ (g i))) (hle : dLen ≤ sLen)
    {T : TypeId} {k : Nat → IntKind} {N : Nat} {f : Nat → Int} (hB : Bx B T k N f w) (hN : off + dLen ≤ N) (hk : ∀ j, off ≤ j → j < off + dLen → k j = κ)
    (h : ∀ w', Only B w w' → Bx B T k N (overF f off (lst dLen g)) w' → wpList P ops Q rest (a.put o.dst (goInt dLen)) w') : wpList P ops Q (o :: rest) a w := by
  have hl : (lst dLen g).length = dLen := lst_len _ _
  refine wpList_copy_own hgd d s dT sT ho elem hu hsz B off dLen dCap ⟨C, so, none⟩ sLen sCap hd hs (ag k N f) T hB ((lst dLen g).map (Value.int κ)) (by rw [List.length_map, hl]; exact (Nat.min_eq_right hle).symm) ?_ (by rw [List.length_map, ag_size, hl]; exact hN) (fun v hv => by obtain ⟨x, _, rfl⟩ := List.mem_map.1 hv; rfl) ?_
  · intro j v hj
    obtain ⟨x, hx1, rfl⟩ := Option.map_eq_some_iff.1 ((List.getElem?_map ..).symm.trans hj)
    have hj' : j < dLen := by
      have := (List.getElem?_eq_some_iff.1 hx1).1
      rwa [hl] at this
    unfold lst at hx1
    simp only [List.getElem?_map, List.getElem?_range hj', Option.map_some, Option.some.injEq] at hx1
    subst hx1
    have e : (⟨C, so, none⟩ : Addr).add j = ⟨C, so + j, none⟩ := by unfold Addr.add; split <;> simp_all
    rw [e]
    exact hx j hj'
  · rw [List.length_map, hl]
    refine h _ (only_setRow _ _ _) ?_
    have e := splice_ag k κ N f off (lst dLen g) (by rw [hl]; exact hN) (by rw [hl]; exact hk)
    rw [List.length_map, hl] at e
    rw [e]
    exact setRow_heap w B _ _ T _ hB
end
/-- The call's frame: the state, the mode, the frame, the spectrum, the result. -/
structure LP (w : World) (B : Nat) (f : Nat → Int) (s c : Int) (zf : Array Value) (xs : Nat → Int) (W : World) : Prop where
  below : Below B w W
  size : B + 4 < W.heap.size
  st : Bx B St kS 142 f W
  mo : W.heap[B + 1]? = some (.cells #[.int .i64 s, .int .i64 c] 60 (0, 0))
  fr : W.heap[B + 2]? = some (.cells zf 106 (0, 0))
  sp : Bx (B + 3) T64 k32 64 xs W
  rz : W.heap[B + 4]? = some (.cells Tryd.zeroCells97 St (0, 0))
theorem LP.keepB {w B f s c zf xs} {C : Nat} {W W' : World} (h : LP w B f s c zf xs W) (hb : Below C W W') (hC : B + 4 < C) : LP w B f s c zf xs W' := by
  have hs := h.size
  exact ⟨h.below.trans (hb.mono (by omega)), Nat.lt_of_lt_of_le hs hb.size, (hb.block _ (by omega)).trans h.st, (hb.block _ (by omega)).trans h.mo, (hb.block _ (by omega)).trans h.fr, (hb.block _ (by omega)).trans h.sp, (hb.block _ (by omega)).trans h.rz⟩
theorem LP.keep {w B f s c zf xs} {W W' : World} (h : LP w B f s c zf xs W) (hb : Below W.heap.size W W') : LP w B f s c zf xs W' := h.keepB hb h.size
theorem LP.only {w B f s c zf xs} {f' : Nat → Int} {W W' : World} (h : LP w B f s c zf xs W) (ho : Only B W W') (hf : Bx B St kS 142 f' W') : LP w B f' s c zf xs W' :=
  ⟨ho.below h.below (Nat.le_refl _), by rw [ho.size]; exact h.size, hf, (ho.block _ (by omega)).trans h.mo, (ho.block _ (by omega)).trans h.fr, (ho.block _ (by omega)).trans h.sp, (ho.block _ (by omega)).trans h.rz⟩
theorem LP.m0 {w B f s c zf xs} {W : World} (h : LP w B f s c zf xs W) : W.cell? ⟨B + 1, 0, none⟩ = some (.int .i64 s) := (block_facts h.mo).1 0
theorem LP.m1 {w B f s c zf xs} {W : World} (h : LP w B f s c zf xs W) : W.cell? ⟨B + 1, 1, none⟩ = some (.int .i64 c) := (block_facts h.mo).1 1
theorem LP.ext {w B f s c zf xs} {f' : Nat → Int} {W : World} (h : LP w B f s c zf xs W) (he : ∀ i, i < 142 → f i = f' i) : LP w B f' s c zf xs W :=
  ⟨h.below, h.size, by have := h.st; unfold Bx at this ⊢; rwa [ag_ext kS 142 f f' he] at this, h.mo, h.fr, h.sp, h.rz⟩
theorem LP.below' {w B f s c zf xs} {W : World} (h : LP w B f s c zf xs W) (hB : w.heap.size ≤ B) : Below w.heap.size w W := h.below.mono hB
theorem alloc_keep {w : World} (o : Obj) {k : Nat} {x : Obj} (h : w.heap[k]? = some x) : (w.alloc o).heap[k]? = some x :=
  (alloc_old w o k (Array.getElem?_eq_some_iff.1 h).1).trans h
theorem alloc_new {w : World} (o : Obj) (k : Nat) (h : w.heap.size = k) : (w.alloc o).heap[k]? = some o := by rw [← h]; exact alloc_at w o
/-- dct.Plain of a channel. -/
theorem dctL (xs : Nat → Int) (s : Int) (hs : 0 ≤ s ∧ s ≤ 2) (C k : Nat) (hk : k < 2) (hx : ∀ i, -2147483648 ≤ xs i ∧ xs i ≤ 2147483647) (W : World) (hW : Bx C T64 k32 64 xs W) (hT : CosW W) :
    Calls Tryd.prog 25 #[.slice (some ⟨C, k * 32, none⟩) (nOf s) 32] W fun e w' => ∃ g, e = .returned (.slice (some ⟨g, 0, none⟩) (nOf s) (nOf s)) ∧ Bx g 21 (fun _ => .i32) (nOf s) (yF s xs k) w' ∧ Below W.heap.size W w' := by
  have hp := szOf_pow s hs
  have hn := nOf_in s
  have h := dctPlain_any (szOf s) (szOf_in s hs).1 (szOf_in s hs).2 C (k * 32) 32 (fun i => xs (k * 32 + i)) W hT (block_facts hW).2.2 (fun i hi => ag_cell hW _ (by omega)) (fun i => hx _)
  rw [hp] at h
  refine h.mono ?_
  rintro e w' ⟨g, rfl, _, h1, h2⟩
  exact ⟨g, rfl, h1, h2⟩
/-- lap.Plain of it, over the tail. -/
theorem lapC (xs st : Nat → Int) (nb : Nat) (e : Nat → Int) (s : Int) (hs : 0 ≤ s ∧ s ≤ 2) (hb : nb ≤ 5) (B g k : Nat) (hk : k < 2) (W : World) (hg : Bx g 21 (fun _ => .i32) (nOf s) (yF s xs k) W) (hW : Bx B St kS 142 (playTo s nb xs e st k) W) :
    Calls Tryd.prog 87 #[.slice (some ⟨g, 0, none⟩) (nOf s) (nOf s), .slice (some ⟨B, 10 + k * 32, none⟩) (nOf s) 32] W fun e w' => ∃ v0 v1, e = .returned (.tuple #[v0, v1]) ∧ Kd.R (Kd.int .i32) 21 w' W.heap.size (fun _ => True) v0 (lapL s xs st k).1 ∧ Kd.R (Kd.int .i32) 21 w' W.heap.size (fun _ => True) v1 (lapL s xs st k).2 ∧ Below W.heap.size W w' := by
  have hn := nOf_in s
  have h1 := bx_reads hg .i32 0 (nOf s) (by omega) (by omega) (fun _ _ _ => rfl)
  have h2 := bx_reads hW .i32 (10 + k * 32) (nOf s) (by omega) (by decide) (fun j h1 h2 => by unfold kS; rw [if_neg (by omega), if_pos (by omega)])
  have e1 : ((List.range (nOf s)).map fun i => yF s xs k (0 + i)) = lst (nOf s) (yF s xs k) := lst_ext _ _ _ fun i _ => by rw [Nat.zero_add]
  have e2 : ((List.range (nOf s)).map fun i => playTo s nb xs e st k (10 + k * 32 + i)) = tailL st (nOf s) k := tailL_to s nb xs e st k hb hk
  rw [e1] at h1
  rw [e2] at h2
  have h := lap_Plain.calls 200 _ (nOf s) _ _ 32 _ _ _ W h1 (by rw [lst_len]; exact Nat.le_refl _) h2 (by unfold tailL; rw [lst_len]; omega) (lapL_some s xs st k).1
  rw [lst_len, show (tailL st (nOf s) k).length = nOf s from lst_len _ _] at h
  refine h.mono ?_
  rintro e w' ⟨v0, v1, rfl, a, b, c⟩
  exact ⟨v0, v1, rfl, Kd.R_mono a (fun _ _ => trivial), Kd.R_mono b (fun _ _ => trivial), c⟩
/-- emph.Plain of that. -/
theorem emC (xs st : Nat → Int) (s : Int) (k c : Nat) (A : Option Addr) (hc : (lapL s xs st k).1.length ≤ c) (W : World) (hA : Kd.C (Kd.int .i32) W A (lapL s xs st k).1.length (lapL s xs st k).1) :
    Calls Tryd.prog 88 #[.slice A (lapL s xs st k).1.length c, .int .i32 (st (138 + k))] W fun e w' => ∃ v, e = .returned (.tuple #[v, .int .i32 (emL s xs st k).2]) ∧ Kd.R (Kd.int .i16) 108 w' W.heap.size (fun _ => True) v (emL s xs st k).1 ∧ Below W.heap.size W w' := by
  exact emph_Plain.calls 100002 A c _ (st (138 + k)) _ _ W hA hc (emL_some s xs st k).1
theorem soundsP_succ (s : Int) (xs st : Nat → Int) (k : Nat) : soundsP s xs st (k + 1) = soundsP s xs st k ++ [(emL s xs st k).1] := by
  unfold soundsP; rw [List.range_succ, List.map_append]; rfl
end Go.Proofs.YtcibajleknhklaaDoor
end

section
namespace Go.Proofs.YtcibajleknhklaaDoor
open Go.RowKit Go.BigFrame Go.Proofs.YtcibajleknhklaaDoorW.PrintWords Go.Proofs.YtcibajleknhklaaDoorW.PrintLast Go.Proofs.YtcibajleknhklaaDoorW.PrintMore
open PStateTells RStateTells
set_option linter.unusedSimpArgs false
set_option linter.unusedVariables false
set_option maxHeartbeats 4000000 in
set_option maxRecDepth 100000 in
theorem play_any (st xs en : Nat → Int) (sd : Int) (zf : Array Value) (s : Int) (c : Nat) (hs : 0 ≤ s ∧ s ≤ 2) (hc : 1 ≤ c ∧ c ≤ 2) (hx : ∀ i, -2147483648 ≤ xs i ∧ xs i ≤ 2147483647) (hz : ∀ j, j < 10 → zf[5 + j]? = some (.int .i64 (en j))) (w : World) (hT : CosW w) :
    Calls Tryd.prog 48 #[.agg (ag kS 142 st), .agg #[.int .i64 s, .int .i64 c], .agg zf, .agg (ag k32 64 xs), .int .u32 sd] w fun e w' => ∃ v, e = .returned (.tuple #[.agg (ag kS 142 (playF s c xs en sd st)), v]) ∧
      Kd.R (Kd.int .i16) 108 w' w.heap.size (fun _ => True) v (mixF (soundsP s xs st c) (nOf s)) ∧ Below w.heap.size w w' := by
  have HT := Lib.hid hT
  have HZ := Lib.hid hz
  have hR := Lib.hid (show RightP s c from ⟨by omega, by omega, by omega, by omega⟩)
  have hN := Lib.hid (fun w => modeN26 s c hs (by omega) w)
  have hBn := Lib.hid (fun w => bands26 s c hs (by omega) w)
  have hRt := Lib.hid (fun w => modeRight s c w)
  rw [decide_eq_true hR.out] at hRt
  have hnb5 : nbOf s ≤ 5 := by unfold nbOf; omega
  have HDC := Lib.hid (fun C k hk W hW hT => dctL xs s hs C k hk hx W hW hT)
  have HLC := Lib.hid (fun B g k hk W hg hW => lapC xs st (nbOf s) en s hs hnb5 B g k hk W hg hW)
  have HEC := Lib.hid (fun k c A hc W hA => emC xs st s k c A hc W hA)
  have HO1 := Lib.hid (fun k => lapL_some s xs st k)
  have HO2 := Lib.hid (fun k => emL_some s xs st k)
  have HOV := Lib.hid (fun k hk j => playC_over s (nbOf s) xs en st k hk hnb5 j)
  have HSL := Lib.hid (fun c => soundsP_len s xs st c)
  have HME := Lib.hid (fun k hk => mem_to s (nbOf s) xs en st k hnb5 hk)
  have HHI := Lib.hid (fun j hj k hk => playTo_high s (nbOf s) xs en st hnb5 j hj k hk)
  have HNB := Lib.hid (show nbOf s = nbOf s from rfl)
  have hfin : playF s c xs en sd st = fun j => if j = 140 then sd else if j = 141 then 0 else playTo s (nbOf s) xs en st c j := by unfold playF; rw [Int.toNat_natCast]
  have HFIN := Lib.hid hfin
  have hn32' := nOf_in s
  obtain ⟨n, hn⟩ : ∃ n, nOf s = n := ⟨_, rfl⟩
  obtain ⟨nb, hnb⟩ : ∃ nb, nbOf s = nb := ⟨_, rfl⟩
  rw [hn] at hN HDC HLC HO1 HO2 HSL hn32'
  rw [hnb] at hBn HLC HOV HME HHI hnb5 HFIN
  have hn32 : 8 ≤ n ∧ n ≤ 32 := by omega
  have Hn := Lib.hid hn
  clear hT hn hnb hx hz hfin hn32' HNB
  go_enter Tryd.func48, Tryd.ntmps48
  go_upto_region 4 with (first | (go_at_call 86; refine (hRt.out _).mono ?_; rintro e w' ⟨rfl, hb1⟩; obtain ⟨x1, rfl⟩ := below_as_grew hb1; clear hb1) | (go_at_call 47; refine (hN.out _).mono ?_; rintro e w' ⟨rfl, hb1⟩; obtain ⟨x1, rfl⟩ := below_as_grew hb1; clear hb1))
  refine cut_world (fun V => LP w w.heap.size st s c zf xs V) ⟨by (repeat' (first | (with_reducible exact Below.refl _ _) | (with_reducible assumption) | (with_reducible refine Below.alloc ?_ ?_ _) | (with_reducible refine below_grew ?_ ?_ _) | (with_reducible refine Below.setCell ?_ ?_ _) | (with_reducible refine Below.drew ?_) | (with_reducible refine below_drewN ?_ _) | omega | (simp; done) | (simp; omega))), by simp; omega, ?_, ?_, ?_, ?_, ?_⟩ ?_
  · refine (World.grew_block _ _ _ (by simp; omega)).trans ?_
    exact alloc_keep _ (alloc_keep _ (alloc_keep _ (alloc_keep _ (alloc_at _ _))))
  · refine (World.grew_block _ _ _ (by simp)).trans ?_
    exact alloc_keep _ (alloc_keep _ (alloc_keep _ (alloc_new _ _ (by simp))))
  · refine (World.grew_block _ _ _ (by simp)).trans ?_
    exact alloc_keep _ (alloc_keep _ (alloc_new _ _ (by simp)))
  · refine (World.grew_block _ _ _ (by simp)).trans ?_
    exact alloc_keep _ (alloc_new _ _ (by simp))
  · refine (World.grew_block _ _ _ (by simp)).trans ?_
    exact alloc_new _ _ (by simp)
  intro V hV
  generalize hBd : w.heap.size = B at *
  have HBd := Lib.hid hBd
  have HV := Lib.hid hV
  have hVs := hV.size
  have m1 := hV.m1
  clear hBd hV
  go_wp2_with fail
  go_loopw [13, 27] (fun vs cnt wr => ∃ k : Nat, k ≤ c ∧ cnt = .int .i64 k ∧ LP w B (playTo s nb xs en st k) s c zf xs wr ∧ Kd.R (Kd.slice 108 (Kd.int .i16)) 100 wr V.heap.size (fun _ => True) vs (soundsP s xs st k) ∧ V.heap.size ≤ wr.heap.size) (fun _ cnt _ => c - (intOf cnt).toNat)
  case atStart => exact ⟨0, by omega, rfl, HV.out, Kd.R_nil _ _ _ _ _, Nat.le_refl _⟩
  case round =>
    obtain ⟨k, hk, rfl, hLS, hS, hsz⟩ := hrel
    have HLS := Lib.hid hLS
    have HS := Lib.hid hS
    have hws := hLS.size
    clear hLS hS m1
    by_cases hlt : k < c
    · have hlt' : (k : Int) < c := by omega
      have hk0 : (0 : Int) ≤ k := by omega
      have hk2 : (k : Int) < 2 := by omega
      have n0 : (0 : Int) ≤ n := by omega
      have n32 : (n : Int) ≤ 32 := by omega
      have m1 := HLS.out.m1
      have hkk : k < 2 := by omega
      have hT1 : CosW wr := HT.out.below (HLS.out.below' (Nat.le_of_eq HBd.out))
      have HDC1 := Lib.hid (fun W hC => HDC.out (B + 3) k hkk W (HLS.out.keep hC).sp (hT1.below hC))
      have HLC1 := Lib.hid (fun g W hg hC => HLC.out B g k hkk W hg (HLS.out.keep hC).st)
      clear hT1
      go_wp2_with fail
      refine wp_region_inv [] (fun W => Below wr.heap.size wr W) (fun W W' => Below W.heap.size W W') 15 (by kernel_rfl) (by kernel_rfl) (by kernel_rfl) ((Below.refl _ _).drew) (fun W W' h h' => h.trans (h'.mono h.size)) (fun _ _ h => h.size) ?_
      simp only [List.take_succ_cons, List.take_zero, List.drop_succ_cons, List.drop_zero]
      refine wpInv_det (by kernel_rfl) (by kernel_rfl) ?_
      apply Exists.intro
      refine ⟨?_, ?_, ?_⟩
      · intro U W hC hH
        have hc1 := (bcell hC).1
        have hf1 := (bcell hC).2
        simp only [HypsU, predsOf, Region.binds, List.filterMap_cons, List.filterMap_nil, if_true, List.nil_append, List.cons_append, List.getD_cons_zero, List.getD_cons_succ] at hH
        simp only [fillPuts, Act.put, List.setIfInBounds_toArray, List.set_cons_zero, List.set_cons_succ, Nat.reduceAdd]
        go_wp2_with fail
        refine ⟨rfl, rfl, by (repeat' (first | (with_reducible exact Below.refl _ _) | (with_reducible assumption) | (with_reducible refine Below.alloc ?_ ?_ _) | (with_reducible refine below_grew ?_ ?_ _) | (with_reducible refine Below.setCell ?_ ?_ _) | (with_reducible refine Below.drew ?_) | (with_reducible refine below_drewN ?_ _) | omega | (simp; done) | (simp; omega))), ?_⟩
        conv => lhs; whnf
        try rfl
      · exact fun _ => rfl
      simp only [List.nil_append, List.cons_append, Nat.reduceAdd]
      refine wpInv_det (by kernel_rfl) (by kernel_rfl) ?_
      apply Exists.intro
      refine ⟨?_, ?_, ?_⟩
      · intro U W hC hH
        have hc1 := (bcell hC).1
        have hf1 := (bcell hC).2
        simp only [HypsU, predsOf, Region.binds, List.filterMap_cons, List.filterMap_nil, if_true, List.nil_append, List.cons_append, List.getD_cons_zero, List.getD_cons_succ] at hH
        simp only [fillPuts, Act.put, List.setIfInBounds_toArray, List.set_cons_zero, List.set_cons_succ, Nat.reduceAdd]
        go_wp2_with fail
        refine ⟨rfl, rfl, by (repeat' (first | (with_reducible exact Below.refl _ _) | (with_reducible assumption) | (with_reducible refine Below.alloc ?_ ?_ _) | (with_reducible refine below_grew ?_ ?_ _) | (with_reducible refine Below.setCell ?_ ?_ _) | (with_reducible refine Below.drew ?_) | (with_reducible refine below_drewN ?_ _) | omega | (simp; done) | (simp; omega))), ?_⟩
        conv => lhs; whnf
        try rfl
      · exact fun _ => rfl
      simp only [List.nil_append, List.cons_append, Nat.reduceAdd]
      refine wpInv_det (by kernel_rfl) (by kernel_rfl) ?_
      apply Exists.intro
      refine ⟨?_, ?_, ?_⟩
      · intro U W hC hH
        have hc1 := (bcell hC).1
        have hf1 := (bcell hC).2
        simp only [HypsU, predsOf, Region.binds, List.filterMap_cons, List.filterMap_nil, if_true, List.nil_append, List.cons_append, List.getD_cons_zero, List.getD_cons_succ] at hH
        simp only [fillPuts, Act.put, List.setIfInBounds_toArray, List.set_cons_zero, List.set_cons_succ, Nat.reduceAdd]
        go_wp2_with fail
        refine ⟨rfl, rfl, by (repeat' (first | (with_reducible exact Below.refl _ _) | (with_reducible assumption) | (with_reducible refine Below.alloc ?_ ?_ _) | (with_reducible refine below_grew ?_ ?_ _) | (with_reducible refine Below.setCell ?_ ?_ _) | (with_reducible refine Below.drew ?_) | (with_reducible refine below_drewN ?_ _) | omega | (simp; done) | (simp; omega))), ?_⟩
        conv => lhs; whnf
        try rfl
      · exact fun _ => rfl
      simp only [List.nil_append, List.cons_append, Nat.reduceAdd]
      refine wpInv_det (by kernel_rfl) (by kernel_rfl) ?_
      apply Exists.intro
      refine ⟨?_, ?_, ?_⟩
      · intro U W hC hH
        have hc1 := (bcell hC).1
        have hf1 := (bcell hC).2
        simp only [HypsU, predsOf, Region.binds, List.filterMap_cons, List.filterMap_nil, if_true, List.nil_append, List.cons_append, List.getD_cons_zero, List.getD_cons_succ] at hH
        simp only [fillPuts, Act.put, List.setIfInBounds_toArray, List.set_cons_zero, List.set_cons_succ, Nat.reduceAdd]
        go_wp2_with fail
        refine ⟨rfl, rfl, by (repeat' (first | (with_reducible exact Below.refl _ _) | (with_reducible assumption) | (with_reducible refine Below.alloc ?_ ?_ _) | (with_reducible refine below_grew ?_ ?_ _) | (with_reducible refine Below.setCell ?_ ?_ _) | (with_reducible refine Below.drew ?_) | (with_reducible refine below_drewN ?_ _) | omega | (simp; done) | (simp; omega))), ?_⟩
        conv => lhs; whnf
        try rfl
      · exact fun _ => rfl
      simp only [List.nil_append, List.cons_append, Nat.reduceAdd]
      refine ⟨fun U W => ∃ g, U 4 = .slice (some ⟨g, 0, none⟩) n n ∧ Bx g 21 (fun _ => .i32) n (yF s xs k) W, fun _ _ => rfl, ?_, ?_, ?_⟩
      · rintro U W W' hC hT ⟨g, h0, hv⟩
        exact ⟨g, h0, hv.keep hT⟩
      · intro U W hC hH
        simp only [HypsU, predsOf, Region.binds, List.filterMap_cons, List.filterMap_nil, if_true, List.nil_append, List.cons_append, List.getD_cons_zero, List.getD_cons_succ] at hH
        simp only [fillPuts, Act.put, List.setIfInBounds_toArray, List.set_cons_zero, List.set_cons_succ, Nat.reduceAdd]
        go_wp2_with fail
        refine (HDC1.out _ hC).mono ?_
        rintro e W' ⟨g, rfl, hg, hb⟩
        go_wp2_with fail
        exact ⟨rfl, rfl, hb, ⟨g, updU_eq _ _ _, hg⟩, fun h => by cases h⟩
      refine wpInv_det (by kernel_rfl) (by kernel_rfl) ?_
      apply Exists.intro
      refine ⟨?_, ?_, ?_⟩
      · intro U W hC hH
        have hc1 := (bcell hC).1
        have hf1 := (bcell hC).2
        simp only [HypsU, predsOf, Region.binds, List.filterMap_cons, List.filterMap_nil, if_true, List.nil_append, List.cons_append, List.getD_cons_zero, List.getD_cons_succ] at hH
        simp only [fillPuts, Act.put, List.setIfInBounds_toArray, List.set_cons_zero, List.set_cons_succ, Nat.reduceAdd]
        go_wp2_with fail
        refine ⟨rfl, rfl, by (repeat' (first | (with_reducible exact Below.refl _ _) | (with_reducible assumption) | (with_reducible refine Below.alloc ?_ ?_ _) | (with_reducible refine below_grew ?_ ?_ _) | (with_reducible refine Below.setCell ?_ ?_ _) | (with_reducible refine Below.drew ?_) | (with_reducible refine below_drewN ?_ _) | omega | (simp; done) | (simp; omega))), ?_⟩
        conv => lhs; whnf
        try rfl
      · exact fun _ => rfl
      simp only [List.nil_append, List.cons_append, Nat.reduceAdd]
      refine wpInv_det (by kernel_rfl) (by kernel_rfl) ?_
      apply Exists.intro
      refine ⟨?_, ?_, ?_⟩
      · intro U W hC hH
        have hc1 := (bcell hC).1
        have hf1 := (bcell hC).2
        simp only [HypsU, predsOf, Region.binds, List.filterMap_cons, List.filterMap_nil, if_true, List.nil_append, List.cons_append, List.getD_cons_zero, List.getD_cons_succ] at hH
        simp only [fillPuts, Act.put, List.setIfInBounds_toArray, List.set_cons_zero, List.set_cons_succ, Nat.reduceAdd]
        go_wp2_with fail
        refine ⟨rfl, rfl, by (repeat' (first | (with_reducible exact Below.refl _ _) | (with_reducible assumption) | (with_reducible refine Below.alloc ?_ ?_ _) | (with_reducible refine below_grew ?_ ?_ _) | (with_reducible refine Below.setCell ?_ ?_ _) | (with_reducible refine Below.drew ?_) | (with_reducible refine below_drewN ?_ _) | omega | (simp; done) | (simp; omega))), ?_⟩
        conv => lhs; whnf
        try rfl
      · exact fun _ => rfl
      simp only [List.nil_append, List.cons_append, Nat.reduceAdd]
      refine wpInv_det (by kernel_rfl) (by kernel_rfl) ?_
      apply Exists.intro
      refine ⟨?_, ?_, ?_⟩
      · intro U W hC hH
        have hc1 := (bcell hC).1
        have hf1 := (bcell hC).2
        simp only [HypsU, predsOf, Region.binds, List.filterMap_cons, List.filterMap_nil, if_true, List.nil_append, List.cons_append, List.getD_cons_zero, List.getD_cons_succ] at hH
        simp only [fillPuts, Act.put, List.setIfInBounds_toArray, List.set_cons_zero, List.set_cons_succ, Nat.reduceAdd]
        go_wp2_with fail
        refine ⟨rfl, rfl, by (repeat' (first | (with_reducible exact Below.refl _ _) | (with_reducible assumption) | (with_reducible refine Below.alloc ?_ ?_ _) | (with_reducible refine below_grew ?_ ?_ _) | (with_reducible refine Below.setCell ?_ ?_ _) | (with_reducible refine Below.drew ?_) | (with_reducible refine below_drewN ?_ _) | omega | (simp; done) | (simp; omega))), ?_⟩
        conv => lhs; whnf
        try rfl
      · exact fun _ => rfl
      simp only [List.nil_append, List.cons_append, Nat.reduceAdd]
      refine wpInv_det (by kernel_rfl) (by kernel_rfl) ?_
      apply Exists.intro
      refine ⟨?_, ?_, ?_⟩
      · intro U W hC hH
        have hc1 := (bcell hC).1
        have hf1 := (bcell hC).2
        simp only [HypsU, predsOf, Region.binds, List.filterMap_cons, List.filterMap_nil, if_true, List.nil_append, List.cons_append, List.getD_cons_zero, List.getD_cons_succ] at hH
        simp only [fillPuts, Act.put, List.setIfInBounds_toArray, List.set_cons_zero, List.set_cons_succ, Nat.reduceAdd]
        go_wp2_with fail
        refine ⟨rfl, rfl, by (repeat' (first | (with_reducible exact Below.refl _ _) | (with_reducible assumption) | (with_reducible refine Below.alloc ?_ ?_ _) | (with_reducible refine below_grew ?_ ?_ _) | (with_reducible refine Below.setCell ?_ ?_ _) | (with_reducible refine Below.drew ?_) | (with_reducible refine below_drewN ?_ _) | omega | (simp; done) | (simp; omega))), ?_⟩
        conv => lhs; whnf
        try rfl
      · exact fun _ => rfl
      simp only [List.nil_append, List.cons_append, Nat.reduceAdd]
      refine wpInv_det (by kernel_rfl) (by kernel_rfl) ?_
      apply Exists.intro
      refine ⟨?_, ?_, ?_⟩
      · intro U W hC hH
        have hc1 := (bcell hC).1
        have hf1 := (bcell hC).2
        simp only [HypsU, predsOf, Region.binds, List.filterMap_cons, List.filterMap_nil, if_true, List.nil_append, List.cons_append, List.getD_cons_zero, List.getD_cons_succ] at hH
        simp only [fillPuts, Act.put, List.setIfInBounds_toArray, List.set_cons_zero, List.set_cons_succ, Nat.reduceAdd]
        go_wp2_with fail
        refine ⟨rfl, rfl, by (repeat' (first | (with_reducible exact Below.refl _ _) | (with_reducible assumption) | (with_reducible refine Below.alloc ?_ ?_ _) | (with_reducible refine below_grew ?_ ?_ _) | (with_reducible refine Below.setCell ?_ ?_ _) | (with_reducible refine Below.drew ?_) | (with_reducible refine below_drewN ?_ _) | omega | (simp; done) | (simp; omega))), ?_⟩
        conv => lhs; whnf
        try rfl
      · exact fun _ => rfl
      simp only [List.nil_append, List.cons_append, Nat.reduceAdd]
      refine ⟨fun U W => ∃ v0 v1, U 10 = .tuple #[v0, v1] ∧ Kd.R (Kd.int .i32) 21 W wr.heap.size (fun _ => True) v0 (lapL s xs st k).1 ∧ Kd.R (Kd.int .i32) 21 W wr.heap.size (fun _ => True) v1 (lapL s xs st k).2, fun _ _ => rfl, ?_, ?_, ?_⟩
      · rintro U W W' hC hT ⟨v0, v1, h0, hv, hv'⟩
        exact ⟨v0, v1, h0, Kd.R_below hv hT, Kd.R_below hv' hT⟩
      · intro U W hC hH
        simp only [HypsU, predsOf, Region.binds, List.filterMap_cons, List.filterMap_nil, if_true, List.nil_append, List.cons_append, List.getD_cons_zero, List.getD_cons_succ] at hH
        simp only [fillPuts, Act.put, List.setIfInBounds_toArray, List.set_cons_zero, List.set_cons_succ, Nat.reduceAdd]
        obtain ⟨⟨g, h4, hg⟩, h9, -⟩ := hH
        simp only [h4, h9]
        go_wp2_with fail
        refine (HLC1.out g _ hg hC).mono ?_
        rintro e W' ⟨v0, v1, rfl, hv, hv', hb⟩
        go_wp2_with fail
        exact ⟨rfl, rfl, hb, ⟨v0, v1, updU_eq _ _ _, Kd.R_lower hv hC.size, Kd.R_lower hv' hC.size⟩, fun h => by cases h⟩
      refine ⟨fun U W => ∃ v0 v1, U 11 = .tuple #[v0, v1] ∧ Kd.R (Kd.int .i32) 21 W wr.heap.size (fun _ => True) v0 (lapL s xs st k).1 ∧ Kd.R (Kd.int .i32) 21 W wr.heap.size (fun _ => True) v1 (lapL s xs st k).2, fun _ _ => rfl, ?_, ?_, ?_⟩
      · rintro U W W' hC hT ⟨v0, v1, h0, hv, hv'⟩
        exact ⟨v0, v1, h0, Kd.R_below hv hT, Kd.R_below hv' hT⟩
      · intro U W hC hH
        simp only [HypsU, predsOf, Region.binds, List.filterMap_cons, List.filterMap_nil, if_true, List.nil_append, List.cons_append, List.getD_cons_zero, List.getD_cons_succ] at hH
        simp only [fillPuts, Act.put, List.setIfInBounds_toArray, List.set_cons_zero, List.set_cons_succ, Nat.reduceAdd]
        obtain ⟨⟨v0, v1, h0, hv, hv'⟩, -⟩ := hH
        simp only [h0]
        go_wp2_with fail
        exact ⟨rfl, rfl, Below.refl _ _, ⟨v0, v1, updU_eq _ _ _, hv, hv'⟩, fun h => by cases h⟩
      refine ⟨fun U W => Kd.R (Kd.int .i32) 21 W wr.heap.size (fun _ => True) (U 12) (lapL s xs st k).1, fun _ _ => rfl, ?_, ?_, ?_⟩
      · rintro U W W' hC hT hv
        exact Kd.R_below hv hT
      · intro U W hC hH
        simp only [HypsU, predsOf, Region.binds, List.filterMap_cons, List.filterMap_nil, if_true, List.nil_append, List.cons_append, List.getD_cons_zero, List.getD_cons_succ] at hH
        simp only [fillPuts, Act.put, List.setIfInBounds_toArray, List.set_cons_zero, List.set_cons_succ, Nat.reduceAdd]
        obtain ⟨⟨v0, v1, h0, hv, hv'⟩, -⟩ := hH
        simp only [h0]
        go_wp2_with fail
        exact ⟨rfl, rfl, Below.refl _ _, by rw [updU_eq]; exact hv, fun h => by cases h⟩
      refine ⟨fun U W => Kd.R (Kd.int .i32) 21 W wr.heap.size (fun _ => True) (U 13) (lapL s xs st k).2, fun _ _ => rfl, ?_, ?_, ?_⟩
      · rintro U W W' hC hT hv
        exact Kd.R_below hv hT
      · intro U W hC hH
        simp only [HypsU, predsOf, Region.binds, List.filterMap_cons, List.filterMap_nil, if_true, List.nil_append, List.cons_append, List.getD_cons_zero, List.getD_cons_succ] at hH
        simp only [fillPuts, Act.put, List.setIfInBounds_toArray, List.set_cons_zero, List.set_cons_succ, Nat.reduceAdd]
        obtain ⟨⟨v0, v1, h0, hv, hv'⟩, -⟩ := hH
        simp only [h0]
        go_wp2_with fail
        exact ⟨rfl, rfl, Below.refl _ _, by rw [updU_eq]; exact hv', fun h => by cases h⟩
      refine ⟨fun U W => Kd.R (Kd.int .i32) 21 W wr.heap.size (fun _ => True) (U 14) (lapL s xs st k).1, fun _ _ => rfl, ?_, ?_, ?_⟩
      · rintro U W W' hC hT hv
        exact Kd.R_below hv hT
      · intro U W hC hH
        simp only [HypsU, predsOf, Region.binds, List.filterMap_cons, List.filterMap_nil, if_true, List.nil_append, List.cons_append, List.getD_cons_zero, List.getD_cons_succ] at hH
        simp only [fillPuts, Act.put, List.setIfInBounds_toArray, List.set_cons_zero, List.set_cons_succ, Nat.reduceAdd]
        have hv := hH.1
        go_wp2_with fail
        exact ⟨rfl, rfl, Below.refl _ _, by rw [updU_eq]; exact hv, fun h => by cases h⟩
      simp only [List.nil_append, List.cons_append, Nat.reduceAdd, fillPuts, Act.put, List.setIfInBounds_toArray, List.set_cons_zero, List.set_cons_succ]
      rintro U W1 hC ⟨-, -, -, -, -, -, -, -, -, -, -, -, -, h13, h14, -⟩ -
      obtain ⟨A1, c1, h14e, hc1, hC1⟩ := Kd.R_reads h14
      obtain ⟨A2, c2, h13e, hc2, hC2⟩ := Kd.R_reads h13
      rw [h13e] at h13 ⊢
      rw [h14e] at h14 ⊢
      clear h13e h14e
      generalize U 0 = x0 at *
      generalize U 1 = x1 at *
      generalize U 2 = x2 at *
      generalize U 3 = x3 at *
      generalize U 4 = x4 at *
      generalize U 5 = x5 at *
      generalize U 6 = x6 at *
      generalize U 7 = x7 at *
      generalize U 8 = x8 at *
      generalize U 9 = x9 at *
      generalize U 10 = x10 at *
      generalize U 11 = x11 at *
      generalize U 12 = x12 at *
      have HEC1 := Lib.hid (HEC.out k c1 A1 hc1 W1 hC1)
      have hl1 := (HO1.out k).2.1
      have hl2 := (HO1.out k).2.2.1
      have hl3 := (HO2.out k).2.1
      have hOVk := HOV.out k hkk
      obtain ⟨L1, hL1⟩ : ∃ L1, (lapL s xs st k).1 = L1 := ⟨_, rfl⟩
      obtain ⟨L2, hL2⟩ : ∃ L2, (lapL s xs st k).2 = L2 := ⟨_, rfl⟩
      obtain ⟨S3, hS3⟩ : ∃ S3, (emL s xs st k).1 = S3 := ⟨_, rfl⟩
      obtain ⟨M3, hM3⟩ : ∃ M3, (emL s xs st k).2 = M3 := ⟨_, rfl⟩
      rw [hL1, hS3, hM3] at HEC1
      rw [hL1] at hl1 hC1 hc1 h14 ⊢
      rw [hL2] at hl2 hC2 hc2 h13 ⊢
      rw [hS3] at hl3
      rw [hL1, hL2, hM3] at hOVk
      have hls1 := HLS.out.keep hC
      have r0 := ag_cell hls1.st (138 + k) (by omega)
      rw [show kS (138 + k) = .i32 from by unfold kS; rw [if_neg (by omega), if_pos (by omega)], HME.out k hkk] at r0
      obtain ⟨M0, hM0⟩ : ∃ M0, st (138 + k) = M0 := ⟨_, rfl⟩
      rw [hM0] at r0 HEC1
      have HL3 := Lib.hid hS3
      have HOVK := Lib.hid hOVk
      have HLN := Lib.hid (show L1.length = n ∧ L2.length = n ∧ S3.length = n from ⟨hl1, hl2, hl3⟩)
      have HR1 := Lib.hid h14
      have HR2 := Lib.hid h13
      have HLS1 := Lib.hid hls1
      have HS1 := Lib.hid (Kd.R_below HS.out hC)
      have hsz1 : V.heap.size ≤ W1.heap.size := Nat.le_trans hsz hC.size
      have hLa : 0 < L1.length ∧ L1.length ≤ 32 := by omega
      have hLb : 0 < L2.length ∧ L2.length ≤ 32 := by omega
      clear hL1 hL2 hS3 hM3 hM0 hl1 hl2 hl3 hOVk hC1 hC2 hls1 hC HLS HS HDC1 HLC1 m1 hc1 hc2 h13 h14
      go_wp2_with fail
      refine HEC1.out.mono ?_
      rintro e w2 ⟨v3, rfl, hv3, hb2⟩
      obtain ⟨A3, c3, rfl⟩ := Kd.R_slice hv3
      have HV3 := Lib.hid hv3
      have HLS2 := Lib.hid (HLS1.out.keep hb2)
      have HS2 := Lib.hid (Kd.R_below HS1.out hb2)
      have HR12 := Lib.hid (Kd.R_below HR1.out hb2)
      have HR22 := Lib.hid (Kd.R_below HR2.out hb2)
      have hsz2 : V.heap.size ≤ w2.heap.size := Nat.le_trans hsz1 hb2.size
      obtain ⟨inner, hin⟩ := Kd.R_own HS1.out
      have HIN := Lib.hid hin
      clear hv3 hb2 HLS1 HS1 HR1 HR2 HEC1 r0 hin
      go_upto_region 11 with ((with_reducible refine gate_builtin (b := .copy) (xs := #[.tmp 56, .tmp 57]) rfl ?_); refine copy_bx rfl (.tmp 56) (.tmp 57) 43 43 rfl 21 Tryd.underlying43 (by kernel_rfl) B (10 + k * 32) 32 32 c2 A2 .i32 L2 rfl rfl (R_C HR22.out).1 ?c1 ?c2 HLS2.out.st ?c3 ?c4 ?c5; (case c1 => exact hLb.1); (case c2 => exact hLb.2); (case c3 => omega); (case c4 => intro j h1 h2; unfold kS; rw [if_neg (by omega), if_pos (by omega)]); intro w3 ho3 hb3; have HO3 := Lib.hid ho3; have HB3 := Lib.hid hb3; clear ho3 hb3)
      have hwB : B < wr.heap.size := by omega
      have hwV : B < V.heap.size := by omega
      have hwA : B < W1.heap.size := by omega
      have HLS3 := Lib.hid (HLS2.out.only HO3.out HB3.out)
      have HS3 := Lib.hid (R_only HS2.out HO3.out hwV)
      have HR13 := Lib.hid (R_only HR12.out HO3.out hwB)
      have HV33 := Lib.hid (R_only HV3.out HO3.out hwA)
      have hsz3 : V.heap.size ≤ w3.heap.size := by rw [HO3.out.size]; exact hsz2
      clear HLS2 HS2 HR12 HR22 HV3 HO3 HB3
      go_upto_region 12 with ((with_reducible refine gate_builtin (b := .copy) (xs := #[.tmp 62, .tmp 63]) rfl ?_); refine copy_bx rfl (.tmp 62) (.tmp 63) 43 43 rfl 21 Tryd.underlying43 (by kernel_rfl) B (74 + k * 32) 32 32 c1 A1 .i32 L1 rfl rfl (R_C HR13.out).1 ?q1 ?q2 HLS3.out.st ?q3 ?q4 ?q5; (case q1 => exact hLa.1); (case q2 => exact hLa.2); (case q3 => omega); (case q4 => intro j h1 h2; unfold kS; rw [if_neg (by omega), if_pos (by omega)]); intro w4 ho4 hb4; have HO4 := Lib.hid ho4; have HB4 := Lib.hid hb4; clear ho4 hb4)
      have hls4 := HLS3.out.only HO4.out HB4.out
      have d1 := ag_cell hls4.st (138 + k) (by omega)
      have d2 := (block_facts hls4.st).2.1 (138 + k)
      rw [show kS (138 + k) = .i32 from by unfold kS; rw [if_neg (by omega), if_pos (by omega)]] at d1
      have ho5 := only_setCell w4 ⟨B, 138 + k, none⟩ (.int .i32 M3)
      have hb5 := ag_store hls4.st (138 + k) (by omega) M3
      rw [show kS (138 + k) = .i32 from by unfold kS; rw [if_neg (by omega), if_pos (by omega)]] at hb5
      have HLS5 := Lib.hid (hls4.only ho5 hb5)
      have hoW : Only B w3 (w4.setCell ⟨B, 138 + k, none⟩ (.int .i32 M3)) := HO4.out.trans ho5
      have hSW := R_only HS3.out hoW hwV
      have hxW := R_only HV33.out hoW hwA
      have hsz5 : V.heap.size ≤ (w4.setCell ⟨B, 138 + k, none⟩ (.int .i32 M3)).heap.size := by rw [hoW.size]; exact hsz3
      have hxW2 := Kd.R_lower (Kd.R_new hxW HIN.out) hsz1
      have HSW := Lib.hid hSW
      have HXW := Lib.hid hxW2
      have HSz := Lib.hid hsz5
      have hk2' : (soundsP s xs st k).length ≤ 2 := by simp [soundsP]; omega
      clear hls4 ho5 hb5 hoW hSW hxW hxW2 hsz5 HO4 HB4 HLS3 HS3 HR13 HV33 HIN
      go_upto_region 14 with ((with_reducible refine gate_builtin (b := .append) (xs := #[.tmp 69, .tmp 71]) rfl ?_); at_builtin; refine Kd.R_append (Kd.slice 108 (Kd.int .i16)) (w0 := w4.setCell ⟨B, 138 + k, none⟩ (.int .i32 M3)) V.heap.size rfl (.tmp 69) (.tmp 71) 166 100 (.slice none 0 0) 24 rfl Tryd.underlying166 info_sl rfl (by decide) (by omega) u13 (soundsP s xs st k) S3 [.slice A3 S3.length c3] (fun _ => True) (fun b => True ∧ some b ≠ u13.ownBlock) rfl (Eq.trans (b := Value.slice (some ⟨w4.heap.size, 0, none⟩) 1 1) rfl (by simp)) ?aP ?aQ ?aF ?aO ?aB ?aS ?aL ?_; (case aP => exact ⟨_, rfl, HXW.out⟩); (case aQ => exact fun _ h => h); (case aF => exact (fun _ _ => trivial)); (case aO => exact HSW.out); (case aB => exact Below.refl _ _); (case aS => exact HSz.out); (case aL => omega); intro v5 w5 hS5 hB5 hgr hat; have HS5 := Lib.hid hS5; have HLS6 := Lib.hid (HLS5.out.keepB hB5 hVs); have hs5 := Nat.le_trans HSz.out hB5.size; clear hS5 hB5 hgr hat)
      generalize hf5 : updI (overF (overF (playTo s nb xs en st k) (10 + k * 32) L2) (74 + k * 32) L1) (138 + k) M3 = f5 at *
      have HF5 := Lib.hid hf5
      have m0 := HLS6.out.m0
      have m1 := HLS6.out.m1
      have nb0 : (0 : Int) ≤ nb := by omega
      have nb5 : (nb : Int) ≤ 5 := by omega
      clear hf5 d1 d2 HSW HXW HSz HLS5
      refine wp_region_inv [] (fun W => Below w5.heap.size w5 W) (fun W W' => Below W.heap.size W W') 10 (by kernel_rfl) (by kernel_rfl) (by kernel_rfl) ((Below.refl _ _).drew) (fun W W' h h' => h.trans (h'.mono h.size)) (fun _ _ h => h.size) ?_
      simp only [List.take_succ_cons, List.take_zero, List.drop_succ_cons, List.drop_zero]
      refine wpInv_det (by kernel_rfl) (by kernel_rfl) ?_
      apply Exists.intro
      refine ⟨?_, ?_, ?_⟩
      · intro U W hC hH
        have hc1 := (bcell hC).1
        have hf1 := (bcell hC).2
        simp only [HypsU, predsOf, Region.binds, List.filterMap_cons, List.filterMap_nil, if_true, List.nil_append, List.cons_append, List.getD_cons_zero, List.getD_cons_succ] at hH
        simp only [fillPuts, Act.put, List.setIfInBounds_toArray, List.set_cons_zero, List.set_cons_succ, Nat.reduceAdd]
        go_wp2_with fail
        refine ⟨rfl, rfl, by (repeat' (first | (with_reducible exact Below.refl _ _) | (with_reducible assumption) | (with_reducible refine Below.alloc ?_ ?_ _) | (with_reducible refine below_grew ?_ ?_ _) | (with_reducible refine Below.setCell ?_ ?_ _) | (with_reducible refine Below.drew ?_) | (with_reducible refine below_drewN ?_ _) | omega | (simp; done) | (simp; omega))), ?_⟩
        conv => lhs; whnf
        try rfl
      · exact fun _ => rfl
      simp only [List.nil_append, List.cons_append, Nat.reduceAdd]
      refine wpInv_det (by kernel_rfl) (by kernel_rfl) ?_
      apply Exists.intro
      refine ⟨?_, ?_, ?_⟩
      · intro U W hC hH
        have hc1 := (bcell hC).1
        have hf1 := (bcell hC).2
        simp only [HypsU, predsOf, Region.binds, List.filterMap_cons, List.filterMap_nil, if_true, List.nil_append, List.cons_append, List.getD_cons_zero, List.getD_cons_succ] at hH
        simp only [fillPuts, Act.put, List.setIfInBounds_toArray, List.set_cons_zero, List.set_cons_succ, Nat.reduceAdd]
        go_wp2_with fail
        refine ⟨rfl, rfl, by (repeat' (first | (with_reducible exact Below.refl _ _) | (with_reducible assumption) | (with_reducible refine Below.alloc ?_ ?_ _) | (with_reducible refine below_grew ?_ ?_ _) | (with_reducible refine Below.setCell ?_ ?_ _) | (with_reducible refine Below.drew ?_) | (with_reducible refine below_drewN ?_ _) | omega | (simp; done) | (simp; omega))), ?_⟩
        conv => lhs; whnf
        try rfl
      · exact fun _ => rfl
      simp only [List.nil_append, List.cons_append, Nat.reduceAdd]
      refine wpInv_det (by kernel_rfl) (by kernel_rfl) ?_
      apply Exists.intro
      refine ⟨?_, ?_, ?_⟩
      · intro U W hC hH
        have hc1 := (bcell hC).1
        have hf1 := (bcell hC).2
        simp only [HypsU, predsOf, Region.binds, List.filterMap_cons, List.filterMap_nil, if_true, List.nil_append, List.cons_append, List.getD_cons_zero, List.getD_cons_succ] at hH
        simp only [fillPuts, Act.put, List.setIfInBounds_toArray, List.set_cons_zero, List.set_cons_succ, Nat.reduceAdd]
        go_wp2_with fail
        refine ⟨rfl, rfl, by (repeat' (first | (with_reducible exact Below.refl _ _) | (with_reducible assumption) | (with_reducible refine Below.alloc ?_ ?_ _) | (with_reducible refine below_grew ?_ ?_ _) | (with_reducible refine Below.setCell ?_ ?_ _) | (with_reducible refine Below.drew ?_) | (with_reducible refine below_drewN ?_ _) | omega | (simp; done) | (simp; omega))), ?_⟩
        conv => lhs; whnf
        try rfl
      · exact fun _ => rfl
      simp only [List.nil_append, List.cons_append, Nat.reduceAdd]
      refine ⟨fun U W => U 3 = .agg #[.int .i64 s, .int .i64 c], fun _ _ => rfl, fun _ _ _ _ _ h => h, ?_, ?_⟩
      · intro U W hC hH
        have q := HLS6.out.keep hC
        have q0 := q.m0
        have q1 := q.m1
        clear q
        simp only [HypsU, predsOf, Region.binds, List.filterMap_cons, List.filterMap_nil, if_true, List.nil_append, List.cons_append, List.getD_cons_zero, List.getD_cons_succ] at hH
        simp only [fillPuts, Act.put, List.setIfInBounds_toArray, List.set_cons_zero, List.set_cons_succ, Nat.reduceAdd]
        go_wp2_with fail
        exact ⟨rfl, rfl, Below.refl _ _, updU_eq _ _ _, fun h => by cases h⟩
      refine ⟨fun U W => U 4 = .int .i64 nb, fun _ _ => rfl, fun _ _ _ _ _ h => h, ?_, ?_⟩
      · intro U W hC hH
        simp only [HypsU, predsOf, Region.binds, List.filterMap_cons, List.filterMap_nil, if_true, List.nil_append, List.cons_append, List.getD_cons_zero, List.getD_cons_succ] at hH
        simp only [fillPuts, Act.put, List.setIfInBounds_toArray, List.set_cons_zero, List.set_cons_succ, Nat.reduceAdd]
        simp only [hH.1]
        go_wp2_with fail
        refine (hBn.out W).mono ?_
        rintro e W' ⟨rfl, hb⟩
        go_wp2_with fail
        exact ⟨rfl, rfl, hb, updU_eq _ _ _, fun h => by cases h⟩
      refine wpInv_det (by kernel_rfl) (by kernel_rfl) ?_
      apply Exists.intro
      refine ⟨?_, ?_, ?_⟩
      · intro U W hC hH
        have hc1 := (bcell hC).1
        have hf1 := (bcell hC).2
        simp only [HypsU, predsOf, Region.binds, List.filterMap_cons, List.filterMap_nil, if_true, List.nil_append, List.cons_append, List.getD_cons_zero, List.getD_cons_succ] at hH
        simp only [fillPuts, Act.put, List.setIfInBounds_toArray, List.set_cons_zero, List.set_cons_succ, Nat.reduceAdd]
        go_wp2_with fail
        refine ⟨rfl, rfl, by (repeat' (first | (with_reducible exact Below.refl _ _) | (with_reducible assumption) | (with_reducible refine Below.alloc ?_ ?_ _) | (with_reducible refine below_grew ?_ ?_ _) | (with_reducible refine Below.setCell ?_ ?_ _) | (with_reducible refine Below.drew ?_) | (with_reducible refine below_drewN ?_ _) | omega | (simp; done) | (simp; omega))), ?_⟩
        conv => lhs; whnf
        try rfl
      · exact fun _ => rfl
      simp only [List.nil_append, List.cons_append, Nat.reduceAdd]
      refine wpInv_det (by kernel_rfl) (by kernel_rfl) ?_
      apply Exists.intro
      refine ⟨?_, ?_, ?_⟩
      · intro U W hC hH
        have hc1 := (bcell hC).1
        have hf1 := (bcell hC).2
        simp only [HypsU, predsOf, Region.binds, List.filterMap_cons, List.filterMap_nil, if_true, List.nil_append, List.cons_append, List.getD_cons_zero, List.getD_cons_succ] at hH
        simp only [fillPuts, Act.put, List.setIfInBounds_toArray, List.set_cons_zero, List.set_cons_succ, Nat.reduceAdd]
        go_wp2_with fail
        refine ⟨rfl, rfl, by (repeat' (first | (with_reducible exact Below.refl _ _) | (with_reducible assumption) | (with_reducible refine Below.alloc ?_ ?_ _) | (with_reducible refine below_grew ?_ ?_ _) | (with_reducible refine Below.setCell ?_ ?_ _) | (with_reducible refine Below.drew ?_) | (with_reducible refine below_drewN ?_ _) | omega | (simp; done) | (simp; omega))), ?_⟩
        conv => lhs; whnf
        try rfl
      · exact fun _ => rfl
      simp only [List.nil_append, List.cons_append, Nat.reduceAdd]
      refine wpInv_det (by kernel_rfl) (by kernel_rfl) ?_
      apply Exists.intro
      refine ⟨?_, ?_, ?_⟩
      · intro U W hC hH
        have hc1 := (bcell hC).1
        have hf1 := (bcell hC).2
        simp only [HypsU, predsOf, Region.binds, List.filterMap_cons, List.filterMap_nil, if_true, List.nil_append, List.cons_append, List.getD_cons_zero, List.getD_cons_succ] at hH
        simp only [fillPuts, Act.put, List.setIfInBounds_toArray, List.set_cons_zero, List.set_cons_succ, Nat.reduceAdd]
        go_wp2_with fail
        refine ⟨rfl, rfl, by (repeat' (first | (with_reducible exact Below.refl _ _) | (with_reducible assumption) | (with_reducible refine Below.alloc ?_ ?_ _) | (with_reducible refine below_grew ?_ ?_ _) | (with_reducible refine Below.setCell ?_ ?_ _) | (with_reducible refine Below.drew ?_) | (with_reducible refine below_drewN ?_ _) | omega | (simp; done) | (simp; omega))), ?_⟩
        conv => lhs; whnf
        try rfl
      · exact fun _ => rfl
      simp only [List.nil_append, List.cons_append, Nat.reduceAdd]
      refine wpInv_det (by kernel_rfl) (by kernel_rfl) ?_
      apply Exists.intro
      refine ⟨?_, ?_, ?_⟩
      · intro U W hC hH
        have hc1 := (bcell hC).1
        have hf1 := (bcell hC).2
        simp only [HypsU, predsOf, Region.binds, List.filterMap_cons, List.filterMap_nil, if_true, List.nil_append, List.cons_append, List.getD_cons_zero, List.getD_cons_succ] at hH
        simp only [fillPuts, Act.put, List.setIfInBounds_toArray, List.set_cons_zero, List.set_cons_succ, Nat.reduceAdd]
        go_wp2_with fail
        refine ⟨rfl, rfl, by (repeat' (first | (with_reducible exact Below.refl _ _) | (with_reducible assumption) | (with_reducible refine Below.alloc ?_ ?_ _) | (with_reducible refine below_grew ?_ ?_ _) | (with_reducible refine Below.setCell ?_ ?_ _) | (with_reducible refine Below.drew ?_) | (with_reducible refine below_drewN ?_ _) | omega | (simp; done) | (simp; omega))), ?_⟩
        conv => lhs; whnf
        try rfl
      · exact fun _ => rfl
      simp only [List.nil_append, List.cons_append, Nat.reduceAdd]
      refine wpInv_det (by kernel_rfl) (by kernel_rfl) ?_
      apply Exists.intro
      refine ⟨?_, ?_, ?_⟩
      · intro U W hC hH
        have hc1 := (bcell hC).1
        have hf1 := (bcell hC).2
        simp only [HypsU, predsOf, Region.binds, List.filterMap_cons, List.filterMap_nil, if_true, List.nil_append, List.cons_append, List.getD_cons_zero, List.getD_cons_succ] at hH
        simp only [fillPuts, Act.put, List.setIfInBounds_toArray, List.set_cons_zero, List.set_cons_succ, Nat.reduceAdd]
        go_wp2_with fail
        refine ⟨rfl, rfl, by (repeat' (first | (with_reducible exact Below.refl _ _) | (with_reducible assumption) | (with_reducible refine Below.alloc ?_ ?_ _) | (with_reducible refine below_grew ?_ ?_ _) | (with_reducible refine Below.setCell ?_ ?_ _) | (with_reducible refine Below.drew ?_) | (with_reducible refine below_drewN ?_ _) | omega | (simp; done) | (simp; omega))), ?_⟩
        conv => lhs; whnf
        try rfl
      · exact fun _ => rfl
      simp only [List.nil_append, List.cons_append, Nat.reduceAdd]
      simp only [List.nil_append, List.cons_append, Nat.reduceAdd, fillPuts, Act.put, List.setIfInBounds_toArray, List.set_cons_zero, List.set_cons_succ]
      rintro U W6 hC ⟨h0, h1, h2, h3, h4, h5, h6, h7, h8, h9, -⟩ -
      simp only [h0, h1, h2, h3, h4, h5, h6, h7, h8, h9]
      clear h0 h1 h2 h3 h4 h5 h6 h7 h8 h9
      have hls7 := HLS6.out.keep hC
      have HS7 := Lib.hid (Kd.R_below HS5.out hC)
      have hs7 := Nat.le_trans hs5 hC.size
      have hfx : ∀ i, i < nb → W6.cell? ⟨B + 2, 5 + k * 5 + i, none⟩ = some (.int .i64 (en (k * 5 + i))) := fun i hi => by
        rw [(block_facts hls7.fr).1, show 5 + k * 5 + i = 5 + (k * 5 + i) from by omega]
        exact HZ.out _ (by omega)
      have HFX := Lib.hid hfx
      have HLS7 := Lib.hid hls7
      clear hC hls7 hfx HLS6 HS5 hs5 m0 m1
      go_wp2_with ((with_reducible refine gate_builtin (b := .copy) (xs := #[.tmp 78, .tmp 82]) rfl ?_); refine copy_bxe rfl (.tmp 78) (.tmp 82) 28 28 rfl 3 Tryd.underlying28 (by kernel_rfl) B (k * 5) nb 5 (B + 2) (5 + k * 5) 5 5 .i64 (fun i => en (k * 5 + i)) rfl rfl HFX.out ?e1 HLS7.out.st ?e3 ?e4 ?e5; (case e1 => omega); (case e3 => omega); (case e4 => intro j h1 h2; unfold kS; rw [if_pos (by omega)]); intro w7 ho7 hb7; have HO7 := Lib.hid ho7; have HB7 := Lib.hid hb7; clear ho7 hb7)
      go_roundw
      case rel =>
        refine ⟨k + 1, by omega, rfl, (HLS7.out.only HO7.out HB7.out).ext (fun j hj => HOVK.out j), ?_, by rw [HO7.out.size]; exact hs7⟩
        rw [soundsP_succ, HL3.out]
        exact R_only HS7.out HO7.out hwV
      case measure => simp [intOf]; omega
    · have hlt' : ¬ (k : Int) < c := by omega
      obtain rfl : k = c := by omega
      have m1 := HLS.out.m1
      have q0 := ag_cell HLS.out.st 140 (by omega)
      have q1 := ag_cell HLS.out.st 141 (by omega)
      have q2 := (block_facts HLS.out.st).2.1 140
      have q3 := (block_facts HLS.out.st).2.1 141
      go_upto_region 17 with fail
      have ho := (only_setCell wr ⟨B, 140, none⟩ (.int .u32 sd)).setCell (.int .i64 0) (p := ⟨B, 141, none⟩)
      have hbx := ag_store (ag_store HLS.out.st 140 (by omega) sd) 141 (by omega) 0
      have hls11 := (HLS.out.only ho hbx).ext (f' := playF s k xs en sd st) (fun j hj => by
        rw [HFIN.out]
        unfold updI
        dsimp only
        by_cases e1 : j = 141
        · rw [if_pos e1, if_neg (by omega), if_pos e1]
        · rw [if_neg e1]
          by_cases e2 : j = 140
          · rw [if_pos e2, if_pos e2]
          · rw [if_neg e2, if_neg e2, if_neg e1])
      have hV0 : B < V.heap.size := by omega
      refine cut_world (fun W => LP w B (playF s k xs en sd st) s k zf xs W ∧ Kd.R (Kd.slice 108 (Kd.int .i16)) 100 W V.heap.size (fun _ => True) u13 (soundsP s xs st k) ∧ V.heap.size ≤ W.heap.size) ⟨hls11, R_only HS.out ho hV0, by rw [ho.size]; exact hsz⟩ ?_
      clear ho hbx hls11 q0 q1 q2 q3 m1 HLS HS hlt hlt'
      rintro Z ⟨hls, hS, hz⟩
      obtain ⟨A3, c3, rfl, hc3, hC3⟩ := Kd.R_reads hS
      have HLS := Lib.hid hls
      have HC3 := Lib.hid hC3
      have hmx := Lib.hid (fun W hC => state_mix.calls 200 A3 c3 (soundsP s xs st k) n (mixF (soundsP s xs st k) n) W hC hc3 (mix_f _ n (HSL.out k) (by simp [soundsP]; omega) (by omega)))
      clear hls hS hC3
      refine wp_region_inv [] (fun W => Below Z.heap.size Z W) (fun W W' => Below W.heap.size W W') 4 (by kernel_rfl) (by kernel_rfl) (by kernel_rfl) ((Below.refl _ _).drew) (fun W W' h h' => h.trans (h'.mono h.size)) (fun _ _ h => h.size) ?_
      simp only [List.take_succ_cons, List.take_zero, List.drop_succ_cons, List.drop_zero]
      refine wpInv_det (by kernel_rfl) (by kernel_rfl) ?_
      apply Exists.intro
      refine ⟨?_, ?_, ?_⟩
      · intro U W hC hH
        have hc1 := (bcell hC).1
        have hf1 := (bcell hC).2
        simp only [HypsU, predsOf, Region.binds, List.filterMap_cons, List.filterMap_nil, if_true, List.nil_append, List.cons_append, List.getD_cons_zero, List.getD_cons_succ] at hH
        simp only [fillPuts, Act.put, List.setIfInBounds_toArray, List.set_cons_zero, List.set_cons_succ, Nat.reduceAdd]
        refine load_row_g rfl St _ rfl B rfl _ (ag kS 142 (playF s k xs en sd st)) (0, 0) _ (HLS.out.keep hC).st Tryd.underlying97 rfl (infoS_ag _) ?_; go_wp2_with fail
        refine ⟨rfl, rfl, by (repeat' (first | (with_reducible exact Below.refl _ _) | (with_reducible assumption) | (with_reducible refine Below.alloc ?_ ?_ _) | (with_reducible refine below_grew ?_ ?_ _) | (with_reducible refine Below.setCell ?_ ?_ _) | (with_reducible refine Below.drew ?_) | (with_reducible refine below_drewN ?_ _) | omega | (simp; done) | (simp; omega))), ?_⟩
        conv => lhs; whnf
        try rfl
      · exact fun _ => rfl
      simp only [List.nil_append, List.cons_append, Nat.reduceAdd]
      refine wpInv_det (by kernel_rfl) (by kernel_rfl) ?_
      apply Exists.intro
      refine ⟨?_, ?_, ?_⟩
      · intro U W hC hH
        have hc1 := (bcell hC).1
        have hf1 := (bcell hC).2
        simp only [HypsU, predsOf, Region.binds, List.filterMap_cons, List.filterMap_nil, if_true, List.nil_append, List.cons_append, List.getD_cons_zero, List.getD_cons_succ] at hH
        simp only [fillPuts, Act.put, List.setIfInBounds_toArray, List.set_cons_zero, List.set_cons_succ, Nat.reduceAdd]
        go_wp2_with fail
        refine ⟨rfl, rfl, by (repeat' (first | (with_reducible exact Below.refl _ _) | (with_reducible assumption) | (with_reducible refine Below.alloc ?_ ?_ _) | (with_reducible refine below_grew ?_ ?_ _) | (with_reducible refine Below.setCell ?_ ?_ _) | (with_reducible refine Below.drew ?_) | (with_reducible refine below_drewN ?_ _) | omega | (simp; done) | (simp; omega))), ?_⟩
        conv => lhs; whnf
        try rfl
      · exact fun _ => rfl
      simp only [List.nil_append, List.cons_append, Nat.reduceAdd]
      refine wpInv_det (by kernel_rfl) (by kernel_rfl) ?_
      apply Exists.intro
      refine ⟨?_, ?_, ?_⟩
      · intro U W hC hH
        have hc1 := (bcell hC).1
        have hf1 := (bcell hC).2
        simp only [HypsU, predsOf, Region.binds, List.filterMap_cons, List.filterMap_nil, if_true, List.nil_append, List.cons_append, List.getD_cons_zero, List.getD_cons_succ] at hH
        simp only [fillPuts, Act.put, List.setIfInBounds_toArray, List.set_cons_zero, List.set_cons_succ, Nat.reduceAdd]
        go_wp2_with fail
        refine ⟨rfl, rfl, by (repeat' (first | (with_reducible exact Below.refl _ _) | (with_reducible assumption) | (with_reducible refine Below.alloc ?_ ?_ _) | (with_reducible refine below_grew ?_ ?_ _) | (with_reducible refine Below.setCell ?_ ?_ _) | (with_reducible refine Below.drew ?_) | (with_reducible refine below_drewN ?_ _) | omega | (simp; done) | (simp; omega))), ?_⟩
        conv => lhs; whnf
        try rfl
      · exact fun _ => rfl
      simp only [List.nil_append, List.cons_append, Nat.reduceAdd]
      refine ⟨fun U W => ∃ v, U 3 = v ∧ Kd.R (Kd.int .i16) 108 W Z.heap.size (fun _ => True) v (mixF (soundsP s xs st k) n), fun _ _ => rfl, ?_, ?_, ?_⟩
      · rintro U W W' hC hT ⟨v, h0, hv⟩
        exact ⟨v, h0, Kd.R_below hv hT⟩
      · intro U W hC hH
        simp only [HypsU, predsOf, Region.binds, List.filterMap_cons, List.filterMap_nil, if_true, List.nil_append, List.cons_append, List.getD_cons_zero, List.getD_cons_succ] at hH
        simp only [fillPuts, Act.put, List.setIfInBounds_toArray, List.set_cons_zero, List.set_cons_succ, Nat.reduceAdd]
        go_wp2_with fail
        refine (hmx.out _ (Kd.C_below HC3.out hC)).mono ?_
        rintro e W' ⟨v, rfl, hv, hb⟩
        go_wp2_with fail
        refine ⟨rfl, rfl, hb, ⟨v, updU_eq _ _ _, Kd.R_lower hv hC.size⟩, fun h => by cases h⟩
      simp only [List.nil_append, List.cons_append, Nat.reduceAdd, fillPuts, Act.put, List.setIfInBounds_toArray, List.set_cons_zero, List.set_cons_succ]
      rintro U W hC ⟨h0, h1, h2, ⟨v, h3, hv⟩, -⟩ -
      simp only [h0, h1, h2, h3]
      clear h0 h1 h2 h3
      have hls := HLS.out.keep hC
      have hzW := Nat.le_trans hz hC.size
      have HLW := Lib.hid hls
      have HV2 := Lib.hid hv
      clear hls hC hv hmx
      go_wp2_with (refine wpList_store_mid rfl St _ _ rfl (B + 1 + 1 + 1 + 1) 0 (ag kS 142 (playF s k xs en sd st)) rfl rfl ?hth ?hin2 ?hon ?_; (case hth => exact there_row HLW.out.rz _ (zeroS_le _)); (case hin2 => exact infoS_ag _); (case hon => exact ag_one kS 142 _))
      have ho := only_setCells W (B + 1 + 1 + 1 + 1) 0 (ag kS 142 (playF s k xs en sd st)).toList
      have q1 := cells_all HLW.out.rz (N := 142) zeroS_size (cs := ag kS 142 (playF s k xs en sd st)) (ag_size _ _ _)
      have hfin : Below w.heap.size w (W.setCells (B + 1 + 1 + 1 + 1) 0 (ag kS 142 (playF s k xs en sd st)).toList) := ho.below (HLW.out.below' (Nat.le_of_eq HBd.out)) (by rw [HBd.out]; omega)
      refine bodyPost_ret (v := .tuple #[.agg (ag kS 142 (playF s k xs en sd st)), v]) ?_ rfl ⟨v, rfl, ?_, hfin⟩
      · exact results_row_tmp rfl _ _ (B + 1 + 1 + 1 + 1) _ _ _ _ v rfl rfl q1 Tryd.underlying97 rfl (infoS_ag _)
      · rw [HBd.out]
        have := R_lowT (R_only HV2.out ho (by omega)) (show B ≤ Z.heap.size by omega)
        rw [← Hn.out] at this
        exact this
end Go.Proofs.YtcibajleknhklaaDoor
end

section
namespace Go.Proofs.YtcibajleknhklaaDoor
open Go.RowKit Go.BigFrame
open PStateTells RStateTells
set_option linter.unusedSimpArgs false
set_option linter.unusedVariables false
def sat24 (x : Int) : Int := min (max x (-8388608)) 8388607
def sat28 (x : Int) : Int := min (max x (-134217728)) 134217727
/-- What a mode has, struck out. -/
def wo (n nb c : Nat) (st : Nat → Int) : Nat → Int := fun j =>
  if 140 ≤ j then 0
  else if 138 ≤ j then (if j < 138 + c then 0 else st j)
  else if 74 ≤ j then (if (j - 74) / 32 < c ∧ (j - 74) % 32 < n then 0 else st j)
  else if 10 ≤ j then (if (j - 10) / 32 < c ∧ (j - 10) % 32 < n then 0 else st j)
  else (if j / 5 < c ∧ j % 5 < nb then 0 else st j)
def okE (x : Int) : Prop := 0 ≤ x ∧ x ≤ 31
/-- A channel is right, by the document. -/
def RChOk (n nb c : Nat) (st : Nat → Int) (ch : Nat) : Prop := (∀ b, b < 5 → okE (st (ch * 5 + b)) ∧ (c ≤ ch ∨ nb ≤ b → st (ch * 5 + b) = 0)) ∧
  (∀ i, i < 32 → sat24 (st (74 + ch * 32 + i)) = st (74 + ch * 32 + i) ∧ (c ≤ ch ∨ n ≤ i → st (74 + ch * 32 + i) = 0 ∧ st (10 + ch * 32 + i) = 0)) ∧ (sat28 (st (138 + ch)) = st (138 + ch) ∧ (c ≤ ch → st (138 + ch) = 0))
def RStOk (n nb c : Nat) (st : Nat → Int) : Prop := (0 ≤ st 141 ∧ st 141 ≤ 1000) ∧ ∀ ch, ch < 2 → RChOk n nb c st ch
theorem okE_zero : okE 0 := by unfold okE; omega
end Go.Proofs.YtcibajleknhklaaDoor
end

section
namespace Go.Proofs.YtcibajleknhklaaDoor
open Go.RowKit Go.BigFrame Go.Proofs.YtcibajleknhklaaDoorW.PrintWords Go.Proofs.YtcibajleknhklaaDoorW.PrintLast Go.Proofs.YtcibajleknhklaaDoorW.PrintMore
open PStateTells RStateTells
set_option linter.unusedSimpArgs false
set_option linter.unusedVariables false
/-- So many channels struck out. -/
def wk (n nb k : Nat) (st : Nat → Int) : Nat → Int := fun j => if 140 ≤ j then st j else wo n nb k st j
theorem kS_I (j : Nat) (h : 10 ≤ j) (h2 : j < 140) : kS j = .i32 := by unfold kS; rw [if_neg (by omega), if_pos h2]
end Go.Proofs.YtcibajleknhklaaDoor
end

section
namespace Go.Proofs.YtcibajleknhklaaDoor
open Go.RowKit Go.BigFrame Go.Proofs.YtcibajleknhklaaDoorW.PrintWords Go.Proofs.YtcibajleknhklaaDoorW.PrintLast Go.Proofs.YtcibajleknhklaaDoorW.PrintMore
open PStateTells RStateTells
set_option linter.unusedSimpArgs false
set_option linter.unusedVariables false
/-- A call's frame: the state, the mode. -/
structure L2 (w : World) (B : Nat) (f : Nat → Int) (s c : Int) (W : World) : Prop where
  below : Below B w W
  size : B + 1 < W.heap.size
  st : Bx B St kS 142 f W
  mo : W.heap[B + 1]? = some (.cells #[.int .i64 s, .int .i64 c] 60 (0, 0))
theorem L2.keep {w B f s c} {W W' : World} (h : L2 w B f s c W) (hb : Below W.heap.size W W') : L2 w B f s c W' := by
  have hs := h.size
  exact ⟨h.below.trans (hb.mono (by omega)), Nat.lt_of_lt_of_le hs hb.size, (hb.block _ (by omega)).trans h.st, (hb.block _ (by omega)).trans h.mo⟩
theorem L2.m0 {w B f s c} {W : World} (h : L2 w B f s c W) : W.cell? ⟨B + 1, 0, none⟩ = some (.int .i64 s) := (block_facts h.mo).1 0
theorem L2.m1 {w B f s c} {W : World} (h : L2 w B f s c W) : W.cell? ⟨B + 1, 1, none⟩ = some (.int .i64 c) := (block_facts h.mo).1 1
end Go.Proofs.YtcibajleknhklaaDoor
end

section
namespace Go.Proofs.YtcibajleknhklaaDoor
open Go.RowKit Go.BigFrame Go.Proofs.YtcibajleknhklaaDoorW.PrintWords Go.Proofs.YtcibajleknhklaaDoorW.PrintLast Go.Proofs.YtcibajleknhklaaDoorW.PrintMore
open PStateTells RStateTells
set_option linter.unusedSimpArgs false
set_option linter.unusedVariables false
/-- The greatest magnitude of so many numbers of a history. -/
def pkTo (st : Nat → Int) (ch : Nat) : Nat → Int
  | 0 => 0
  | i + 1 => max (max (pkTo st ch i) (st (74 + ch * 32 + i))) (-(st (74 + ch * 32 + i)))
theorem pkTo_bd (st : Nat → Int) (ch : Nat) (hc : ch < 2) (h32 : ∀ j, 10 ≤ j → j < 140 → -2147483648 ≤ st j ∧ st j ≤ 2147483647) : ∀ i, i ≤ 32 → 0 ≤ pkTo st ch i ∧ pkTo st ch i ≤ 2147483648
  | 0, _ => by simp [pkTo]
  | i + 1, h => by
    have h1 := pkTo_bd st ch hc h32 i (by omega)
    have h2 := h32 (74 + ch * 32 + i) (by omega) (by omega)
    rw [pkTo]
    omega
set_option maxHeartbeats 4000000 in
set_option maxRecDepth 100000 in
theorem peak_yes (st : Nat → Int) (s : Int) (c ch : Nat) (hs : 0 ≤ s ∧ s ≤ 2) (hc : 1 ≤ c ∧ c ≤ 2) (hch : ch < c) (h32 : ∀ j, 10 ≤ j → j < 140 → -2147483648 ≤ st j ∧ st j ≤ 2147483647) (w : World) :
    Calls Tryd.prog 52 #[.agg (ag kS 142 st), .agg #[.int .i64 s, .int .i64 c], .int .i64 ch] w fun e w' => e = .returned (.int .i32 (min (pkTo st ch (nOf s)) 2147483647)) ∧ Below w.heap.size w w' := by
  have hRt := Lib.hid (fun w => modeRight s c w)
  rw [decide_eq_true (show RightP s c from ⟨by omega, by omega, by omega, by omega⟩)] at hRt
  have hN := Lib.hid (fun w => modeN26 s c hs (by omega) w)
  obtain ⟨n, hn⟩ : ∃ n, nOf s = n := ⟨_, rfl⟩
  rw [hn] at hN
  have hn32 : 8 ≤ n ∧ n ≤ 32 := by have := nOf_len s; rw [hn] at this; unfold Len at this; omega
  rw [hn]
  have H32 := Lib.hid h32
  have hlt : (ch : Int) < c := by omega
  have h0 : (0 : Int) ≤ ch := by omega
  have h2 : (ch : Int) < 2 := by omega
  have n0 : (0 : Int) ≤ n := by omega
  have n32 : (n : Int) ≤ 32 := by omega
  clear hn h32
  go_enter Tryd.func52, Tryd.ntmps52
  go_upto_region 3 with (go_at_call 86; refine (hRt.out _).mono ?_; rintro e w' ⟨rfl, hb1⟩; obtain ⟨x1, rfl⟩ := below_as_grew hb1; clear hb1)
  refine cut_world (fun V => L2 w w.heap.size st s c V) ⟨by (repeat' (first | (with_reducible exact Below.refl _ _) | (with_reducible assumption) | (with_reducible refine Below.alloc ?_ ?_ _) | (with_reducible refine below_grew ?_ ?_ _) | (with_reducible refine Below.setCell ?_ ?_ _) | (with_reducible refine Below.drew ?_) | (with_reducible refine below_drewN ?_ _) | omega | (simp; done) | (simp; omega))), by simp; omega, (World.grew_block _ _ _ (by simp; omega)).trans (alloc_two _ _ _), (World.grew_block _ _ _ (by simp)).trans (alloc_secondOf _ _ _)⟩ ?_
  intro V hV
  generalize hBd : w.heap.size = B at *
  have HBd := Lib.hid hBd
  have HV := Lib.hid hV
  have m0 := hV.m0
  have m1 := hV.m1
  have hVs := hV.size
  have hVs2 : B < V.heap.size := by omega
  clear hBd hV
  go_wp2_with fail
  first | refine wp_region_grew_all2 (by kernel_rfl) (by kernel_rfl) ?_ | refine wp_region_grew_all (by kernel_rfl) (by kernel_rfl) ?_
  repeat (go_big_quiet_step ((go_at_call 47; exact Calls.grew_of (hN.out _))))
  refine wpQuiet_nil ?_
  rintro _ ⟨x, rfl⟩
  have hC : Below V.heap.size V (V.grew x) := below_grew (Below.refl _ _) (Nat.le_refl _) _
  clear m0 m1
  have hW := HV.out.keep hC
  have HW := Lib.hid hW
  clear hW hC
  go_wp2_with fail
  go_loopw [7, 30] (fun pk cnt wr => ∃ i : Nat, i ≤ n ∧ cnt = .int .i64 i ∧ pk = .int .i64 (pkTo st ch i) ∧ L2 w B st s c wr) (fun _ cnt _ => n - (intOf cnt).toNat)
  case atStart => exact ⟨0, by omega, rfl, rfl, HW.out⟩
  case round =>
    obtain ⟨i, hi, rfl, rfl, hL⟩ := hrel
    have HL := Lib.hid hL
    have hpk := pkTo_bd st ch (by omega) H32.out i (by omega)
    obtain ⟨p, hp⟩ : ∃ p, pkTo st ch i = p := ⟨_, rfl⟩
    rw [hp] at hpk
    have HP := Lib.hid hp
    clear hL
    by_cases hlt2 : i < n
    · have hlt2' : (i : Int) < n := by omega
      have hi0 : (0 : Int) ≤ i := by omega
      have r0 := ag_cell HL.out.st (74 + ch * 32 + i) (by omega)
      rw [kS_I _ (by omega) (by omega)] at r0
      obtain ⟨y1, y2⟩ := H32.out (74 + ch * 32 + i) (by omega) (by omega)
      generalize hy : st (74 + ch * 32 + i) = y at r0 y1 y2
      have HY := Lib.hid hy
      clear hy
      rw [hp]
      clear hp
      go_wp2_with fail
      go_roundw
      case rel => exact ⟨i + 1, by omega, rfl, by rw [pkTo, HP.out, HY.out]; exact congrArg (Value.int .i64) (by omega), HL.out⟩
      case measure => simp [intOf]; omega
    · have hlt2' : ¬ (i : Int) < n := by omega
      obtain rfl : i = n := by omega
      rw [hp]
      clear hp
      obtain ⟨p1, p2⟩ := hpk
      have p3 : 0 ≤ min p 2147483647 := by omega
      have p4 : min p 2147483647 ≤ 2147483647 := by omega
      go_wp2_with fail
      go_ret
      exact ⟨by rw [HP.out]; rfl, by rw [HBd.out]; exact HL.out.below⟩
end Go.Proofs.YtcibajleknhklaaDoor
end

section
namespace Go.Proofs.YtcibajleknhklaaDoor
open Go.RowKit Go.BigFrame Go.Proofs.YtcibajleknhklaaDoorW.PrintWords Go.Proofs.YtcibajleknhklaaDoorW.PrintLast Go.Proofs.YtcibajleknhklaaDoorW.PrintMore
set_option linter.unusedSimpArgs false
set_option linter.unusedVariables false
abbrev Rt := 124
end Go.Proofs.YtcibajleknhklaaDoor
end

section
namespace Go.Proofs.YtcibajleknhklaaDoor
open Go.RowKit Go.BigFrame Go.Proofs.YtcibajleknhklaaDoorW.PrintWords Go.Proofs.YtcibajleknhklaaDoorW.PrintLast Go.Proofs.YtcibajleknhklaaDoorW.PrintMore
open PStateTells RStateTells
set_option linter.unusedSimpArgs false
set_option linter.unusedVariables false
/-- The frame: the state alone. -/
structure L1 (w : World) (B : Nat) (f : Nat → Int) (W : World) : Prop where
  below : Below B w W
  st : Bx B Rt kP 142 f W
theorem L1.keep {w B f} {W W' : World} (h : L1 w B f W) (hb : Below W.heap.size W W') : L1 w B f W' := by
  have hs := (block_facts h.st).2.2
  exact ⟨h.below.trans (hb.mono (by omega)), (hb.block _ (by omega)).trans h.st⟩
theorem L1.lt {w B f} {W : World} (h : L1 w B f W) : B < W.heap.size := (block_facts h.st).2.2
end Go.Proofs.YtcibajleknhklaaDoor
end

section
namespace Go.Proofs.YtcibajleknhklaaDoor
open Go.RowKit Go.BigFrame Go.Proofs.YtcibajleknhklaaDoorW.PrintWords Go.Proofs.YtcibajleknhklaaDoorW.PrintLast Go.Proofs.YtcibajleknhklaaDoorW.PrintMore
open PStateTells RStateTells
set_option linter.unusedSimpArgs false
set_option linter.unusedVariables false
set_option maxHeartbeats 4000000 in
set_option maxRecDepth 100000 in
theorem awake26 (w : World) (hT : FadeW w) : Calls Tryd.prog 46 #[] w fun e w' => e = .returned (.bool true) ∧ Below w.heap.size w w' := by
  have hl : ∀ w, FadeW w → Calls Tryd.prog 49 #[.agg (ag kS 142 (fun _ => 0)), .agg #[.int .i64 0, .int .i64 1]] w fun e w' => ∃ v, e = .returned (.tuple #[.agg (ag kS 142 (loseF 0 1 (fun _ => 0))), v]) ∧
      Kd.R (Kd.int .i16) 108 w' w.heap.size (fun _ => True) v (mixF (soundsF 0 (fun _ => 0) 1) (nOf 0)) ∧ Below w.heap.size w w' := fun w hT => lose_any (fun _ => 0) 0 1 (by decide) (by decide) (fun _ _ => by decide) w hT
  have HT := Lib.hid hT
  have a1 : loseF 0 1 (fun _ => 0) 140 = 1013904223 := by decide +kernel
  have a2 : loseF 0 1 (fun _ => 0) 141 = 1 := by decide +kernel
  obtain ⟨f, hf⟩ : ∃ f, loseF 0 1 (fun _ => 0) = f := ⟨_, rfl⟩
  have hm : mixF (soundsF 0 (fun _ => 0) 1) (nOf 0) = [0, 0, 0, 0, 0, 0, 0, 0] := by decide +kernel
  rw [hf] at a1 a2 hl
  rw [hm] at hl
  have hl := Lib.hid hl
  clear hT hm hf
  go_enter Tryd.func46, Tryd.ntmps46
  go_wp2_with (refine build_to rfl St _ rfl (ag kS 142 (fun _ => 0)) (by kernel_rfl) ?_)
  refine (hl.out w HT.out).mono ?_
  rintro e w1 ⟨v, rfl, hv, hb⟩
  obtain ⟨A, c, rfl, hcv, hCv⟩ := Kd.R_reads hv
  obtain ⟨ad, rfl, hc5⟩ := Kd.at_int hCv 5 (by decide) (by decide)
  have hlt := World.block_lt_of_cell? w1 _ hc5
  have e5 : rd [0, 0, 0, 0, 0, 0, 0, 0] 5 = 0 := by decide
  rw [e5, show Int.toNat 5 = 5 from rfl] at hc5
  have HB := Lib.hid hb
  clear hl hv hCv hb e5
  go_wp2_with (refine wpList_store_mid rfl St _ _ rfl w1.heap.size 0 (ag kS 142 f) rfl rfl ?hth ?hin ?hon ?_; (case hth => exact there_row (alloc_at _ _) _ (zeroS_le _)); (case hin => exact infoS_ag _); (case hon => exact ag_one kS 142 _); have q1 := cells_all (alloc_at w1 (.cells Tryd.zeroCells97 St (0, 0))) (N := 142) zeroS_size (cs := ag kS 142 f) (ag_size _ _ _); have ho := only_setCells (w1.alloc (.cells Tryd.zeroCells97 St (0, 0))) w1.heap.size 0 (ag kS 142 f).toList; have hbb : Below w1.heap.size w1 ((w1.alloc (.cells Tryd.zeroCells97 St (0, 0))).setCells w1.heap.size 0 (ag kS 142 f).toList) := ho.below (by (repeat' (first | (with_reducible exact Below.refl _ _) | (with_reducible assumption) | (with_reducible refine Below.alloc ?_ ?_ _) | (with_reducible refine below_grew ?_ ?_ _) | (with_reducible refine Below.setCell ?_ ?_ _) | (with_reducible refine Below.drew ?_) | (with_reducible refine below_drewN ?_ _) | omega | (simp; done) | (simp; omega)))) (Nat.le_refl _); generalize World.setCells (w1.alloc (.cells Tryd.zeroCells97 St (0, 0))) w1.heap.size 0 (ag kS 142 f).toList = w2 at *; have d1 := ag_cell q1 140 (by decide); have d2 := ag_cell q1 141 (by decide); rw [a1, show kS 140 = .u32 from rfl] at d1; rw [a2, show kS 141 = .i64 from rfl] at d2; have d3 : w2.cell? (ad.add 5) = some (.int .i16 0) := (hbb.cell hlt).trans hc5; unfold Addr.add at d3; rw [if_neg (by decide)] at d3; have HBB := Lib.hid hbb; clear q1 ho hbb hc5)
  go_ret
  exact ⟨by rfl, HB.out.trans (HBB.out.mono HB.out.size)⟩
end Go.Proofs.YtcibajleknhklaaDoor
end

section
namespace Go.Proofs.YtcibajleknhklaaDoor
open Go.RowKit Go.BigFrame Go.Proofs.YtcibajleknhklaaDoorW.PrintWords Go.Proofs.YtcibajleknhklaaDoorW.PrintLast Go.Proofs.YtcibajleknhklaaDoorW.PrintMore
open PStateTells RStateTells
set_option linter.unusedSimpArgs false
set_option linter.unusedVariables false
set_option maxHeartbeats 1000000 in
theorem samples26 (s : Int) (c : Nat) (hs : 0 ≤ s ∧ s ≤ 2) (hc : 1 ≤ c ∧ c ≤ 2) (w : World) : Calls Tryd.prog 50 #[.agg #[.int .i64 s, .int .i64 c]] w fun e w' => e = .returned (.int .i64 ((nOf s * c : Nat) : Int)) ∧ Below w.heap.size w w' := by
  have hN := Lib.hid (fun w => modeN26 s c hs (by omega) w)
  have hn := nOf_in s
  obtain ⟨n, hnn⟩ : ∃ n, nOf s = n := ⟨_, rfl⟩
  rw [hnn] at hN hn ⊢
  have hw : wrap64 ((n : Int) * (c : Int)) = ((n * c : Nat) : Int) := by
    rcases (show c = 1 ∨ c = 2 by omega) with h | h <;> subst h <;> unfold wrap64 <;> omega
  have HW := Lib.hid hw
  clear hw hnn
  go_enter Tryd.func50, Tryd.ntmps50
  go_upto_region 1 with fail
  first | refine wp_region_grew_all2 (by kernel_rfl) (by kernel_rfl) ?_ | refine wp_region_grew_all (by kernel_rfl) (by kernel_rfl) ?_
  repeat (go_big_quiet_step ((go_at_call 47; exact Calls.grew_of (hN.out _))))
  refine wpQuiet_nil ?_
  rintro _ ⟨x, rfl⟩
  go_wp2_with fail
  refine bodyPost_ret (v := _) (by simp [results, Tryd.results50, go_sem]; rfl) rfl ⟨?_, ?_⟩
  · rw [HW.out]
  · (repeat' (first | (with_reducible exact Below.refl _ _) | (with_reducible assumption) | (with_reducible refine Below.alloc ?_ ?_ _) | (with_reducible refine below_grew ?_ ?_ _) | (with_reducible refine Below.setCell ?_ ?_ _) | (with_reducible refine Below.drew ?_) | (with_reducible refine below_drewN ?_ _) | omega | (simp; done) | (simp; omega)))
end Go.Proofs.YtcibajleknhklaaDoor
end

section
namespace Go.Proofs.YtcibajleknhklaaDoor
open Go.RowKit Go.Proofs.YtcibajleknhklaaDoorW.PrintWords
open PStateTells RStateTells
set_option linter.unusedSimpArgs false
set_option linter.unusedVariables false
theorem mix_even (a b : List Int) : ∀ (n k : Nat), k < n → (mixF [a, b] n).getD (2 * k) 0 = a.getD k 0
  | 0, _, h => by omega
  | n + 1, k, h => by
    have hl := mixF_len [a, b] n
    rw [show [a, b].length = 2 from rfl] at hl
    rw [mixF_succ, List.getD_eq_getElem?_getD]
    by_cases hk : k < n
    · rw [List.getElem?_append_left (by omega), ← List.getD_eq_getElem?_getD]
      exact mix_even a b n k hk
    · rw [List.getElem?_append_right (by omega), show 2 * k - (mixF [a, b] n).length = 0 from by omega, show k = n from by omega]
      rfl
end Go.Proofs.YtcibajleknhklaaDoor
end

section
namespace Go.Proofs.YtcibajleknhklaaDoor
open Go.RowKit Go.BigFrame Go.Proofs.YtcibajleknhklaaDoorW.PrintWords Go.Proofs.YtcibajleknhklaaDoorW.PrintLast Go.Proofs.YtcibajleknhklaaDoorW.PrintMore
open PStateTells RStateTells
set_option linter.unusedSimpArgs false
set_option linter.unusedVariables false
abbrev TX := 99
def kX (j : Nat) : IntKind := if j < 64 then .i32 else if j < 74 then .i64 else .u32
def xF (xs es : Nat → Int) (sd : Int) : Nat → Int := fun j => if j < 64 then xs j else if j < 74 then es (j - 64) else sd
/-- The call's frame: the state, the spectrum. -/
structure LA (w : World) (B : Nat) (st X : Nat → Int) (W : World) : Prop where
  below : Below B w W
  size : B + 1 < W.heap.size
  st : Bx B St kS 142 st W
  sp : Bx (B + 1) TX kX 75 X W
theorem LA.keep {w B st X} {W W' : World} (h : LA w B st X W) (hb : Below W.heap.size W W') : LA w B st X W' := by
  have hs := h.size
  exact ⟨h.below.trans (hb.mono (by omega)), Nat.lt_of_lt_of_le hs hb.size, (hb.block _ (by omega)).trans h.st, (hb.block _ (by omega)).trans h.sp⟩
/-- .. and the mode, the other state, the other spectrum. -/
structure LB (w : World) (B m t y : Nat) (st X T Y : Nat → Int) (s : Int) (W : World) : Prop where
  la : LA w B st X W
  o1 : B + 1 < m
  o2 : m < t
  o3 : t < y
  mo : W.heap[m]? = some (.cells #[.int .i64 s, .int .i64 2] 60 (0, 0))
  tt : Bx t St kS 142 T W
  yy : Bx y TX kX 75 Y W
theorem LB.size {w B m t y st X T Y s} {W : World} (h : LB w B m t y st X T Y s W) : y < W.heap.size := (block_facts h.yy).2.2
theorem LB.keep {w B m t y st X T Y s} {W W' : World} (h : LB w B m t y st X T Y s W) (hb : Below W.heap.size W W') : LB w B m t y st X T Y s W' := by
  have h1 := h.o1
  have h2 := h.o2
  have h3 := h.o3
  have h4 := h.size
  exact ⟨h.la.keep hb, h1, h2, h3, (hb.block _ (by omega)).trans h.mo, (hb.block _ (by omega)).trans h.tt, (hb.block _ h4).trans h.yy⟩
theorem LB.m0 {w B m t y st X T Y s} {W : World} (h : LB w B m t y st X T Y s W) : W.cell? ⟨m, 0, none⟩ = some (.int .i64 s) := (block_facts h.mo).1 0
theorem LB.m1 {w B m t y st X T Y s} {W : World} (h : LB w B m t y st X T Y s W) : W.cell? ⟨m, 1, none⟩ = some (.int .i64 2) := (block_facts h.mo).1 1
/-- A state that came, in a block, and its sound. -/
structure PR (b : Nat) (F : Nat → Int) (A : Option Addr) (L : List Int) (W : World) : Prop where
  bx : Bx b St kS 142 F W
  cc : Kd.C (Kd.int .i16) W A L.length L
theorem PR.keep {b F A L} {W W' : World} (h : PR b F A L W) (hb : Below W.heap.size W W') : PR b F A L W' := ⟨h.bx.keep hb, Kd.C_below h.cc hb⟩
/-- The world behind a new state's store. -/
theorem pr_new (W : World) (F : Nat → Int) : Below W.heap.size W ((W.alloc (.cells Tryd.zeroCells97 St (0, 0))).setCells W.heap.size 0 (ag kS 142 F).toList) ∧ Bx W.heap.size St kS 142 F ((W.alloc (.cells Tryd.zeroCells97 St (0, 0))).setCells W.heap.size 0 (ag kS 142 F).toList) :=
  ⟨(only_setCells _ _ _ _).below (by (repeat' (first | (with_reducible exact Below.refl _ _) | (with_reducible assumption) | (with_reducible refine Below.alloc ?_ ?_ _) | (with_reducible refine below_grew ?_ ?_ _) | (with_reducible refine Below.setCell ?_ ?_ _) | (with_reducible refine Below.drew ?_) | (with_reducible refine below_drewN ?_ _) | omega | (simp; done) | (simp; omega)))) (Nat.le_refl _), cells_all (alloc_at W _) (N := 142) zeroS_size (ag_size _ _ _)⟩
theorem x_nums {q : Nat} {xs es : Nat → Int} {sd : Int} {W : World} (h : Bx q TX kX 75 (xF xs es sd) W) : W.rangeAt q 0 (ag k32 64 xs).toList := by
  have := bx_rangeK h .i32 0 64 (by omega) (fun j h1 h2 => by unfold kX; rw [if_pos (by omega)])
  rwa [ag_ext (fun _ => .i32) 64 _ xs (fun i hi => by unfold xF; rw [if_pos (by omega)]; congr 1; omega)] at this
theorem x_seed {q : Nat} {xs es : Nat → Int} {sd : Int} {W : World} (h : Bx q TX kX 75 (xF xs es sd) W) : W.cell? ⟨q, 74, none⟩ = some (.int .u32 sd) := ag_cell h 74 (by omega)
section
variable {P : Program} {ops : Array Oper} {rest : List Oper} {o : Oper} {a : Act} {w : World} {Q : Exit → Act → World → Prop}
/-- A load of whole numbers out of the midst of a block. -/
theorem load_ag (hw : Region.wanted o (yielded ops a.tmps) = true) (ty : TypeId) (x : Operand) (ho : o.op = .load ty x)
    (b f : Nat) (hx : a.eval x = .pointer (some ⟨b, f, none⟩)) (κ : Nat → IntKind) (N : Nat) (g : Nat → Int) (d : TypeDesc) (hc : w.rangeAt b f (ag κ N g).toList)
    (hu : P.underlying ty = some d) (hd : d.isRow = true) (hi : (P.info? ty).map (·.size) = some N)
    (h : wpList P ops Q rest (a.put o.dst (.agg (ag κ N g))) w) : wpList P ops Q (o :: rest) a w :=
  load_mid_g hw ty x ho b f hx _ d hc hu hd (by rw [Array.length_toList, ag_size]; exact hi) (by rw [Array.toArray_toList]; exact h)
end
theorem info64' : (Tryd.prog.info? 93).map (·.size) = some 64 := by kernel_rfl
end Go.Proofs.YtcibajleknhklaaDoor
end

