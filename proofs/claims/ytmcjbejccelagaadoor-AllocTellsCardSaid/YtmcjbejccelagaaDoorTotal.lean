/-
  What any pulses cost (package alloc).
-/
import Derived.Test.YtmcjbejccelagaaDoorSlope
import Derived.Test.YtmcjbejccelagaaDoorCostB
import Derived.Test.YtmcjbejccelagaaDoorIdx
namespace Go.Proofs.YtmcjbejccelagaaDoor
open Go.RowKit Go.BigFrame Go.Vec Go.Cost
set_option linter.unusedSimpArgs false

theorem bitsF_bd (n k : Int) : -1 ≤ bitsF n k ∧ bitsF n k ≤ 200 := by
  unfold bitsF
  split
  · rename_i h
    have hp := capF_pos n k h.1 h.2
    have := pays_le ⟨n.toNat, by omega⟩ ⟨k.toNat, by omega⟩
    simp only at this
    omega
  · omega
def costAt (s c : Int) (l : List Int) (b : Nat) : Int := if (b : Int) < bandsF s c then bitsF (widthF s c b) (l.getD b 0) else 0
def okAt (s c : Int) (l : List Int) (b : Nat) : Bool := if (b : Int) < bandsF s c then decide (0 ≤ bitsF (widthF s c b) (l.getD b 0)) else decide (l.getD b 0 = 0)
def sumAt (s c : Int) (l : List Int) : Nat → Int
  | 0 => 0
  | b + 1 => sumAt s c l b + costAt s c l b
def okTo (s c : Int) (l : List Int) : Nat → Bool
  | 0 => true
  | b + 1 => okTo s c l b && okAt s c l b
def totalF (s c : Int) (l : List Int) : Int := if RightP s c ∧ okTo s c l 5 = true then sumAt s c l 5 * c else -1
theorem sumAt_bd (s c : Int) (l : List Int) : ∀ b : Nat, -(b : Int) ≤ sumAt s c l b ∧ sumAt s c l b ≤ 200 * b
  | 0 => by simp [sumAt]
  | b + 1 => by
    have h := sumAt_bd s c l b
    have h2 := bitsF_bd (widthF s c b) (l.getD b 0)
    simp only [sumAt, costAt]
    split <;> omega
theorem okTo_false {s c : Int} {l : List Int} : ∀ {b : Nat}, b < 5 → okAt s c l b = false → okTo s c l 5 = false := by
  intro b hb h
  have : b = 0 ∨ b = 1 ∨ b = 2 ∨ b = 3 ∨ b = 4 := by omega
  simp only [okTo]
  rcases this with rfl | rfl | rfl | rfl | rfl <;> simp [h]

theorem WidthW.ne {b m : Nat} {w : World} (h : WidthW w) (hB : Book b m w) : m ≠ 0 := by
  intro e
  obtain ⟨es, clk, h1, _⟩ := hB.map
  have h2 := h.2 0 (by omega)
  subst e
  simp [World.cell?, h1] at h2
theorem WidthW.inv {b m : Nat} {w w' : World} (h : WidthW w) (hB : Book b m w) (hi : BkInv m w w') : WidthW w' :=
  ⟨Nat.lt_of_lt_of_le h.1 hi.size, fun j hj => (World.cell?_of_block (w := w) (hi.block _ h.1 (h.ne hB))).trans (h.2 j hj)⟩

theorem total_any (s c : Int) (k0 k1 k2 k3 k4 : Int) (b m : Nat) (w : World) (hB : Book b m w) (hT : WidthW w) :
    Calls Tryd.prog 31 #[.pointer (some ⟨b, 0, none⟩), .agg #[.int .i64 s, .int .i64 c], .agg #[.int .i64 k0, .int .i64 k1, .int .i64 k2, .int .i64 k3, .int .i64 k4]] w fun e w' => e = .returned (.int .i64 (totalF s c [k0, k1, k2, k3, k4])) ∧ Bk m w w' := by
  obtain ⟨l, hl⟩ : ∃ l, l = [k0, k1, k2, k3, k4] := ⟨_, rfl⟩
  have hx : ∀ n, n < 5 → (#[.int .i64 k0, .int .i64 k1, .int .i64 k2, .int .i64 k3, .int .i64 k4] : Array Value)[n]? = some (.int .i64 (l.getD n 0)) := fun n hn => by
    have : n = 0 ∨ n = 1 ∨ n = 2 ∨ n = 3 ∨ n = 4 := by omega
    subst hl
    rcases this with rfl | rfl | rfl | rfl | rfl <;> rfl
  rw [← hl]
  obtain ⟨W, hW⟩ : ∃ W, W = (w.alloc (.cells #[.int .i64 s, .int .i64 c] 33)).alloc (.cells #[.int .i64 k0, .int .i64 k1, .int .i64 k2, .int .i64 k3, .int .i64 k4] 22) := ⟨_, rfl⟩
  have hWi : BkInv m w W := by subst hW; exact (hB.refl.alloc _).alloc _
  have hBW := hB.inv hWi
  have hTW := hT.inv hB hWi
  obtain ⟨y0, hy0⟩ := bkInv_as hBW.refl
  have HX := Lib.hid hx
  have hbands := Lib.hid (fun w => modeBands s c w)
  have hwid := Lib.hid (fun n y => modeWidth s c n (W.bkd m y) (hTW.inv hBW (hBW.refl.bkd y)))
  have hbits := Lib.hid (fun n k => bits_any hBW n k)
  have hml := hB.lt_m
  have c1 : W.cell? ⟨w.heap.size, 0, none⟩ = some (.int .i64 s) := by subst hW; simp [go_sem]
  have c2 : W.cell? ⟨w.heap.size, 1, none⟩ = some (.int .i64 c) := by subst hW; simp [go_sem]
  have d1 : w.heap.size < W.heap.size := by subst hW; simp; omega
  have d2 : m ≠ w.heap.size := by omega
  have d3 : m < W.heap.size := by omega
  have HW := Lib.hid hW
  have hA := hy0
  rw [hW] at hA
  have HA := Lib.hid hA
  clear hl hx hW hA hy0
  go_enter Tryd.func31, Tryd.ntmps31
  go_wp2
  go_loopw [7, 12] (fun sum cnt wr => ∃ n : Nat, n ≤ 5 ∧ cnt = .int .i64 n ∧ sum = .int .i64 (sumAt s c l n) ∧ okTo s c l n = true ∧ ∃ y, wr = W.bkd m y) (fun _ cnt _ => 5 - (intOf cnt).toNat)
  case atStart => exact ⟨0, by omega, rfl, rfl, rfl, y0, HA.out.trans (by rw [HW.out])⟩
  case round =>
    obtain ⟨n, hn, rfl, rfl, hok, y, rfl⟩ := hrel
    by_cases hlt : n < 5
    · have hlt' : (n : Int) < 5 := by omega
      have hix := run_index_one (P := Tryd.prog) 22 3 5 _ n _ _ Tryd.underlying22 Tryd.underlying3 (by refine ⟨fun _ h => ?_, fun _ _ h => ?_⟩ <;> cases h) (by kernel_rfl) hlt (HX.out n hlt)
      have sb := sumAt_bd s c l n
      by_cases hnb : (n : Int) < bandsF s c
      · have bb := bitsF_bd (widthF s c n) (l.getD n 0)
        by_cases hb0 : 0 ≤ bitsF (widthF s c n) (l.getD n 0)
        · have E1 := Lib.hid (show sumAt s c l (n + 1) = sumAt s c l n + bitsF (widthF s c n) (l.getD n 0) from by simp only [sumAt, costAt, if_pos hnb])
          have E2 := Lib.hid (show okTo s c l (n + 1) = true from by simp only [okTo, okAt, if_pos hnb, hok, decide_eq_true hb0]; rfl)
          clear hok
          generalize l.getD n 0 = kn at *
          go_wp2_with (first | (go_at_call 37; refine (hbands.out _).mono ?_; rintro e w' ⟨rfl, hb1⟩; obtain ⟨x1, rfl⟩ := below_as_grew hb1; clear hb1; (try simp only [World.grew_bkd])) | (go_at_call 39; refine (hwid.out _ _).mono ?_; rintro e w' ⟨rfl, hb1⟩; obtain ⟨x1, rfl⟩ := below_as_grew hb1; clear hb1; (try simp only [World.grew_bkd])) | (go_at_call 66; refine (hbits.out _ _ _).mono ?_; rintro e w' ⟨rfl, y2, rfl⟩) | (go_at_call 40; refine (hright.out _).mono ?_; rintro e w' ⟨rfl, hb1⟩; obtain ⟨x1, rfl⟩ := below_as_grew hb1; clear hb1; (try simp only [World.grew_bkd])))
          go_roundw
          case rel => exact ⟨n + 1, by omega, by go_num, by rw [E1.out], E2.out, _, rfl⟩
          case measure => simp [intOf]; omega
        · have E := Lib.hid (show totalF s c l = -1 from by
            have := okTo_false (b := n) (s := s) (c := c) (l := l) hlt (by simp only [okAt, if_pos hnb, decide_eq_false hb0])
            unfold totalF
            rw [if_neg (by simp [this])])
          clear hok
          generalize l.getD n 0 = kn at *
          go_wp2_with (first | (go_at_call 37; refine (hbands.out _).mono ?_; rintro e w' ⟨rfl, hb1⟩; obtain ⟨x1, rfl⟩ := below_as_grew hb1; clear hb1; (try simp only [World.grew_bkd])) | (go_at_call 39; refine (hwid.out _ _).mono ?_; rintro e w' ⟨rfl, hb1⟩; obtain ⟨x1, rfl⟩ := below_as_grew hb1; clear hb1; (try simp only [World.grew_bkd])) | (go_at_call 66; refine (hbits.out _ _ _).mono ?_; rintro e w' ⟨rfl, y2, rfl⟩) | (go_at_call 40; refine (hright.out _).mono ?_; rintro e w' ⟨rfl, hb1⟩; obtain ⟨x1, rfl⟩ := below_as_grew hb1; clear hb1; (try simp only [World.grew_bkd])))
          go_ret
          exact ⟨ret_int E.out.symm, bkInv_as (hWi.bkd _)⟩
      · by_cases hk0 : l.getD n 0 = 0
        · have E1 := Lib.hid (show sumAt s c l (n + 1) = sumAt s c l n from by simp only [sumAt, costAt, if_neg hnb]; omega)
          have E2 := Lib.hid (show okTo s c l (n + 1) = true from by simp only [okTo, okAt, if_neg hnb, hok, decide_eq_true hk0]; rfl)
          rw [hk0] at hix
          clear hok hk0
          go_wp2_with (first | (go_at_call 37; refine (hbands.out _).mono ?_; rintro e w' ⟨rfl, hb1⟩; obtain ⟨x1, rfl⟩ := below_as_grew hb1; clear hb1; (try simp only [World.grew_bkd])) | (go_at_call 39; refine (hwid.out _ _).mono ?_; rintro e w' ⟨rfl, hb1⟩; obtain ⟨x1, rfl⟩ := below_as_grew hb1; clear hb1; (try simp only [World.grew_bkd])) | (go_at_call 66; refine (hbits.out _ _ _).mono ?_; rintro e w' ⟨rfl, y2, rfl⟩) | (go_at_call 40; refine (hright.out _).mono ?_; rintro e w' ⟨rfl, hb1⟩; obtain ⟨x1, rfl⟩ := below_as_grew hb1; clear hb1; (try simp only [World.grew_bkd])))
          go_roundw
          case rel => exact ⟨n + 1, by omega, by go_num, by rw [E1.out], E2.out, _, rfl⟩
          case measure => simp [intOf]; omega
        · have E := Lib.hid (show totalF s c l = -1 from by
            have := okTo_false (b := n) (s := s) (c := c) (l := l) hlt (by simp only [okAt, if_neg hnb, decide_eq_false hk0])
            unfold totalF
            rw [if_neg (by simp [this])])
          clear hok
          have hk0' : (l.getD n 0 == 0) = false := by rw [beq_eq_false_iff_ne]; exact hk0
          generalize l.getD n 0 = kn at *
          go_wp2_with (first | (go_at_call 37; refine (hbands.out _).mono ?_; rintro e w' ⟨rfl, hb1⟩; obtain ⟨x1, rfl⟩ := below_as_grew hb1; clear hb1; (try simp only [World.grew_bkd])) | (go_at_call 39; refine (hwid.out _ _).mono ?_; rintro e w' ⟨rfl, hb1⟩; obtain ⟨x1, rfl⟩ := below_as_grew hb1; clear hb1; (try simp only [World.grew_bkd])) | (go_at_call 66; refine (hbits.out _ _ _).mono ?_; rintro e w' ⟨rfl, y2, rfl⟩) | (go_at_call 40; refine (hright.out _).mono ?_; rintro e w' ⟨rfl, hb1⟩; obtain ⟨x1, rfl⟩ := below_as_grew hb1; clear hb1; (try simp only [World.grew_bkd])))
          go_ret
          exact ⟨ret_int E.out.symm, bkInv_as (hWi.bkd _)⟩
    · have hlt' : ¬(n : Int) < 5 := by omega
      have hn5 : n = 5 := by omega
      rw [hn5] at hok
      have sb := sumAt_bd s c l n
      by_cases hr : RightP s c
      · have E := Lib.hid (show totalF s c l = sumAt s c l n * c from by unfold totalF; rw [if_pos ⟨hr, hok⟩, hn5])
        have hright := Lib.hid (fun w => modeRight s c w)
        rw [decide_eq_true hr] at hright
        have hcc : c = 1 ∨ c = 2 := by have := hr.2.2; omega
        clear hok hr hn5
        rcases hcc with rfl | rfl
        all_goals
          go_wp2_with (first | (go_at_call 37; refine (hbands.out _).mono ?_; rintro e w' ⟨rfl, hb1⟩; obtain ⟨x1, rfl⟩ := below_as_grew hb1; clear hb1; (try simp only [World.grew_bkd])) | (go_at_call 39; refine (hwid.out _ _).mono ?_; rintro e w' ⟨rfl, hb1⟩; obtain ⟨x1, rfl⟩ := below_as_grew hb1; clear hb1; (try simp only [World.grew_bkd])) | (go_at_call 66; refine (hbits.out _ _ _).mono ?_; rintro e w' ⟨rfl, y2, rfl⟩) | (go_at_call 40; refine (hright.out _).mono ?_; rintro e w' ⟨rfl, hb1⟩; obtain ⟨x1, rfl⟩ := below_as_grew hb1; clear hb1; (try simp only [World.grew_bkd])))
          go_ret
          exact ⟨ret_int (by first | (rw [E.out]; done) | (rw [E.out]; omega)), bkInv_as (hWi.bkd _)⟩
      · have E := Lib.hid (show totalF s c l = -1 from by unfold totalF; rw [if_neg (fun h => hr h.1)])
        have hright := Lib.hid (fun w => modeRight s c w)
        rw [decide_eq_false hr] at hright
        clear hok hr hn5
        go_wp2_with (first | (go_at_call 37; refine (hbands.out _).mono ?_; rintro e w' ⟨rfl, hb1⟩; obtain ⟨x1, rfl⟩ := below_as_grew hb1; clear hb1; (try simp only [World.grew_bkd])) | (go_at_call 39; refine (hwid.out _ _).mono ?_; rintro e w' ⟨rfl, hb1⟩; obtain ⟨x1, rfl⟩ := below_as_grew hb1; clear hb1; (try simp only [World.grew_bkd])) | (go_at_call 66; refine (hbits.out _ _ _).mono ?_; rintro e w' ⟨rfl, y2, rfl⟩) | (go_at_call 40; refine (hright.out _).mono ?_; rintro e w' ⟨rfl, hb1⟩; obtain ⟨x1, rfl⟩ := below_as_grew hb1; clear hb1; (try simp only [World.grew_bkd])))
        go_ret
        exact ⟨ret_int E.out.symm, bkInv_as (hWi.bkd _)⟩
end Go.Proofs.YtmcjbejccelagaaDoor
