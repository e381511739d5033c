/-
  The sheet (package cost).
-/
import Derived.Test.YtmcjbejccelagaaSheetW
namespace Go.Proofs.Ytmcjbejccelagaa
open Go.RowKit Go.BigFrame Go.Vec Go.Cost
set_option linter.unusedSimpArgs false

def capG (i : Nat) : Int := if i = 0 then -1 else (cap i : Nat)
structure ShSt (cs : Array Value) (C : Nat → Prop) (B : Nat → Nat → Prop) : Prop where
  size : cs.size = 578
  caps : ∀ i, i < 17 → ∃ y : Int, cs[i]? = some (.int .i64 y) ∧ (C i → y = capG i)
  bits : ∀ i j, i < 17 → j < 33 → ∃ y : Int, cs[17 + i * 33 + j]? = some (.int .i64 y) ∧ (B i j → y = (pays i j : Nat))
section
variable {cs : Array Value} {C C' : Nat → Prop} {B B' : Nat → Nat → Prop}
theorem ShSt.cap_done (h : ShSt cs C B) (i : Nat) (hi : i < 17) (hd : C i) : cs[i]? = some (.int .i64 (capG i)) := by
  obtain ⟨y, h1, h2⟩ := h.caps i hi
  rw [h1, h2 hd]
theorem ShSt.bits_done (h : ShSt cs C B) (i j : Nat) (hi : i < 17) (hj : j < 33) (hd : B i j) : cs[17 + i * 33 + j]? = some (.int .i64 (pays i j : Nat)) := by
  obtain ⟨y, h1, h2⟩ := h.bits i j hi hj
  rw [h1, h2 hd]
theorem ShSt.imp (h : ShSt cs C B) (hc : ∀ i, i < 17 → C' i → C i) (hb : ∀ i j, i < 17 → j < 33 → B' i j → B i j) : ShSt cs C' B' :=
  ⟨h.size, fun i hi => by
    obtain ⟨y, h1, h2⟩ := h.caps i hi
    exact ⟨y, h1, fun d => h2 (hc i hi d)⟩, fun i j hi hj => by
    obtain ⟨y, h1, h2⟩ := h.bits i j hi hj
    exact ⟨y, h1, fun d => h2 (hb i j hi hj d)⟩⟩
theorem ShSt.learn (h : ShSt cs C B) (i0 : Nat) (hv : cs[i0]? = some (.int .i64 (capG i0))) (hc : ∀ i, C' i → C i ∨ i = i0) : ShSt cs C' B :=
  ⟨h.size, fun i hi => by
    by_cases e : i = i0
    · subst e; exact ⟨_, hv, fun _ => rfl⟩
    · obtain ⟨y, h1, h2⟩ := h.caps i hi
      exact ⟨y, h1, fun d => h2 ((hc i d).resolve_right e)⟩, h.bits⟩
/-- A cap is set: to whatever ('C'' leaves it out) or to what it shall be. -/
theorem ShSt.set_cap (h : ShSt cs C B) (i0 : Nat) (hi : i0 < 17) (x : Int) (hx : C' i0 → x = capG i0) (hc : ∀ i, i < 17 → i ≠ i0 → C' i → C i) (hb : ∀ i j, i < 17 → j < 33 → B' i j → B i j) : ShSt (cs.setIfInBounds i0 (.int .i64 x)) C' B' := by
  refine ⟨by simp [h.size], fun i hi' => ?_, fun i j hi' hj' => ?_⟩
  · by_cases e : i = i0
    · subst e
      exact ⟨x, Array.getElem?_setIfInBounds_self_of_lt (by rw [h.size]; omega), hx⟩
    · obtain ⟨y, h1, h2⟩ := h.caps i hi'
      exact ⟨y, by rw [Array.getElem?_setIfInBounds_ne (by omega)]; exact h1, fun d => h2 (hc i hi' e d)⟩
  · obtain ⟨y, h1, h2⟩ := h.bits i j hi' hj'
    exact ⟨y, by rw [Array.getElem?_setIfInBounds_ne (by omega)]; exact h1, fun d => h2 (hb i j hi' hj' d)⟩
theorem ShSt.set_bits (h : ShSt cs C B) (i0 j0 : Nat) (hi : i0 < 17) (hj : j0 < 33) (x : Int) (hx : x = (pays i0 j0 : Nat)) (o : Nat) (ho : o = 17 + i0 * 33 + j0)
    (hc : ∀ i, i < 17 → C' i → C i) (hb : ∀ i j, i < 17 → j < 33 → B' i j → B i j ∨ (i = i0 ∧ j = j0)) : ShSt (cs.setIfInBounds o (.int .i64 x)) C' B' := by
  subst ho hx
  refine ⟨by simp [h.size], fun i hi' => ?_, fun i j hi' hj' => ?_⟩
  · obtain ⟨y, h1, h2⟩ := h.caps i hi'
    exact ⟨y, by rw [Array.getElem?_setIfInBounds_ne (by omega)]; exact h1, fun d => h2 (hc i hi' d)⟩
  · by_cases e : i = i0 ∧ j = j0
    · obtain ⟨rfl, rfl⟩ := e
      exact ⟨_, Array.getElem?_setIfInBounds_self_of_lt (by rw [h.size]; omega), fun _ => rfl⟩
    · obtain ⟨y, h1, h2⟩ := h.bits i j hi' hj'
      refine ⟨y, by rw [Array.getElem?_setIfInBounds_ne (by omega)]; exact h1, fun d => ?_⟩
      rcases hb i j hi' hj' d with d | d
      · exact h2 d
      · exact absurd d e
end
def ShC (n i : Nat) : Prop := i < n
def ShB (n i j : Nat) : Prop := j = 0 ∨ (1 ≤ i ∧ i < n ∧ j ≤ cap i)
def ShBk (n k i j : Nat) : Prop := ShB n i j ∨ (i = n ∧ j < k)
theorem ShBk.one {n i j : Nat} (d : ShBk n 1 i j) : ShB n i j := by
  unfold ShBk at d
  rcases d with d | d
  · exact d
  · exact .inl (by omega)
theorem sheet_first (cs : Array Value) (hs : cs.size = 578) (h : ∀ i, i < 578 → cs[i]? = some (.int .i64 0)) : ShSt (cs.setIfInBounds 0 (.int .i64 (-1))) (ShC 1) (ShB 1) := by
  have h0 : ShSt cs (fun _ => False) (ShB 1) := ⟨hs, fun i hi => ⟨0, h i (by omega), fun d => d.elim⟩, fun i j hi hj => ⟨0, h _ (by omega), fun d => by
    unfold ShB at d
    obtain rfl : j = 0 := by omega
    rfl⟩⟩
  exact h0.set_cap 0 (by omega) _ (fun _ => rfl) (fun i hi hne d => by unfold ShC at d; omega) (fun _ _ _ _ d => d)
def shZ : Array Value := Array.replicate 578 (.int .i64 0)
theorem sheet_zero : ∃ cs, (∀ w, (zeroValue 45).run Try.prog w = .ok (.agg cs) w) ∧ cs.size = 578 ∧ ∀ i, i < 578 → cs[i]? = some (.int .i64 0) := by
  refine ⟨shZ, fun _ => by kernel_rfl, by unfold shZ; simp, fun i hi => ?_⟩
  unfold shZ
  simp [hi]
/-- A sheet lies at block b. -/
def SheetOK (b : Nat) (w : World) : Prop := ∃ cs, w.heap[b]? = some (.cells cs 45 (0, 0)) ∧ ShSt cs (ShC 17) (ShB 17)
theorem SheetOK.below {b B : Nat} {w w' : World} (h : SheetOK b w) (hb : b < B) (hw : Below B w w') : SheetOK b w' := by
  obtain ⟨cs, h1, h2⟩ := h
  exact ⟨cs, (hw.block b hb).trans h1, h2⟩
theorem cap_over : ∀ n : Fin 8, ∀ c : Fin 33, (1048576 < v (n.val + 1) c.val) ↔ cap (n.val + 1) < c.val := by decide +kernel
theorem cap_le32 (n : Nat) (hn : n < 17) : cap n ≤ 32 := cap_le ⟨n, hn⟩
theorem cap_half : ∀ n : Fin 8, cap (n.val + 9) = min (cap ((n.val + 9) / 2)) (cap (n.val + 9 - (n.val + 9) / 2)) := by decide +kernel
theorem cap_pos : ∀ n : Fin 17, 1 ≤ cap n.val := by decide +kernel
theorem vF_nat (n c : Nat) (hn : n < 17) (hc : c < 33) : vF n c = (v n c : Nat) := by
  unfold vF
  rw [if_pos (by omega)]
  simp

set_option maxRecDepth 100000 in
theorem sheetNew (t : Nat) (w : World) (hT : TableOK t w) (ht : t < w.heap.size) : Calls Try.prog 9 #[.pointer (some ⟨t, 0, none⟩)] w fun e w' => ∃ b, e = .returned (.pointer (some ⟨b, 0, none⟩)) ∧ w.heap.size ≤ b ∧ SheetOK b w' ∧ Below w.heap.size w w' := by
  obtain ⟨cs, hz, hsz, hfz⟩ := sheet_zero
  have hS := Lib.hid (sheet_first cs hsz hfz)
  have h0 := hfz 0 (by omega)
  have HT := Lib.hid hT
  clear hfz hT
  go_enter Try.func9, Try.ntmps9
  go_wp2
  clear h0 hz hsz
  go_loopw [4] (fun cnt wr => ∃ n : Nat, 1 ≤ n ∧ n ≤ 17 ∧ cnt = .int .i64 n ∧ ∃ cs x, ShSt cs (ShC n) (ShB n) ∧ wr = (w.alloc (.cells cs 45)).grew x) (fun cnt _ => 17 - (intOf cnt).toNat)
  case atStart => exact ⟨1, by omega, by omega, rfl, _, _, hS.out, (World.grew_none _).symm⟩
  case round =>
    obtain ⟨n, hn1, hn, rfl, cs2, x2, hT, rfl⟩ := hrel
    by_cases hlt : n < 17
    · have hlt' : (n : Int) ≤ 16 := by omega
      have hsz := hT.size
      by_cases hn8 : n ≤ 8
      · have hn8' : (n : Int) ≤ 8 := by omega
        obtain ⟨y0, f0, _⟩ := hT.caps n (by omega)
        have hn17 : (n : Int) < 17 := by omega
        go_wp2_with fail
        go_loopw [33] (fun _ wr => ∃ c : Nat, cap n ≤ c ∧ c ≤ 32 ∧ ∃ cs x, cs[n]? = some (.int .i64 c) ∧ ShSt cs (ShC n) (ShB n) ∧ wr = (w.alloc (.cells cs 45)).grew x) (fun _ wr => (intOf ((wr.cell? ⟨w.heap.size, n, none⟩).getD (.bool false))).toNat)
        case atStart => exact ⟨32, cap_le32 n (by omega), by omega, _, _, Array.getElem?_setIfInBounds_self_of_lt (by rw [hT.size]; omega), hT.set_cap n (by omega) _ (fun d => by unfold ShC at d; omega) (fun _ _ _ d => d) (fun _ _ _ _ d => d), rfl⟩
        case round =>
          obtain ⟨c, hc1, hc2, cs3, x3, f1, hT3, rfl⟩ := hrel
          have hsz3 := hT3.size
          have HV := Lib.hid (fun x => tabV t ((w.alloc (.cells cs3 45)).grew x) (HT.out.below ht (by (repeat' (first | (with_reducible exact Below.refl _ _) | (with_reducible assumption) | (with_reducible refine Below.alloc ?_ ?_ _) | (with_reducible refine below_grew ?_ ?_ _) | (with_reducible refine Below.setCell ?_ ?_ _) | (with_reducible refine Below.drew ?_) | (with_reducible refine below_drewN ?_ _) | omega | (simp; done) | (simp; omega))))) n c)
          have hov := cap_over ⟨n - 1, by omega⟩ ⟨c, by omega⟩
          simp only [show n - 1 + 1 = n by omega] at hov
          rw [vF_nat n c (by omega) (by omega)] at HV
          by_cases hlc : cap n < c
          · have hov' : (1048576 : Int) < (v n c : Nat) := by have := hov.2 hlc; omega
            clear hov
            go_wp2_with (go_at_call 18; refine (HV.out _).mono ?_; rintro e w' ⟨rfl, rfl⟩)
            first | refine wp_region_grew2 10 (by kernel_rfl) (by kernel_rfl) ?_ | refine wp_region_grew 10 (by kernel_rfl) (by kernel_rfl) ?_
            simp only [List.take_succ_cons, List.take_zero, List.drop_succ_cons, List.drop_zero]
            repeat (go_big_quiet_step (fail))
            refine wpQuiet_nil ?_
            rintro _ ⟨x, rfl⟩
            go_wp2
            go_roundw
            case rel => exact ⟨c - 1, by omega, by omega, cs3.setIfInBounds n (.int .i64 (c - 1 : Nat)), x, Array.getElem?_setIfInBounds_self_of_lt (by omega), hT3.set_cap n (by omega) _ (fun d => by unfold ShC at d; omega) (fun _ _ _ d => d) (fun _ _ _ _ d => d), by rw [show (c : Int) - 1 = ((c - 1 : Nat) : Int) by omega]⟩
            case measure =>
              have e1 : (cs3.setIfInBounds n (.int .i64 ((c : Int) - 1)))[n]? = some (.int .i64 ((c : Int) - 1)) := Array.getElem?_setIfInBounds_self_of_lt (by omega)
              simp [go_sem, e1, f1, intOf]
              omega
          · have hov' : ¬(1048576 : Int) < (v n c : Nat) := by have := mt hov.1 hlc; omega
            have hce : c = cap n := by omega
            have hTb : ShSt cs3 (ShC (n + 1)) (ShB n) := hT3.learn n (by rw [f1, hce]; unfold capG; rw [if_neg (by omega)]) (fun i d => by unfold ShC at *; omega)
            clear hov hce
            go_wp2_with (go_at_call 18; refine (HV.out _).mono ?_; rintro e w' ⟨rfl, rfl⟩)
            go_loopw [5] (fun cnt wr => ∃ k : Nat, 1 ≤ k ∧ k ≤ cap n + 1 ∧ cnt = .int .i64 k ∧ ∃ cs x, ShSt cs (ShC (n + 1)) (ShBk n k) ∧ wr = (w.alloc (.cells cs 45)).grew x) (fun cnt _ => cap n + 1 - (intOf cnt).toNat)
            case atStart => exact ⟨1, by omega, by omega, rfl, _, _, hTb.imp (fun i _ d => d) (fun i j _ _ d => ShBk.one d), rfl⟩
            case round =>
              obtain ⟨k, hk1, hk, rfl, cs4, x4, hT4, rfl⟩ := hrel
              have hsz4 := hT4.size
              have c32 := cap_le32 n (by omega)
              have c1 := hT4.cap_done n (by omega) (by unfold ShC; omega)
              rw [show capG n = (cap n : Nat) from by unfold capG; rw [if_neg (by omega)]] at c1
              by_cases hkl : k ≤ cap n
              · have hkl' : (k : Int) ≤ (cap n : Nat) := by omega
                obtain ⟨y4, c2, _⟩ := hT4.bits n k (by omega) (by omega)
                have HW := Lib.hid (fun x => work_any w.heap.size t ((w.alloc (.cells cs4 45)).grew x) (HT.out.below ht (by (repeat' (first | (with_reducible exact Below.refl _ _) | (with_reducible assumption) | (with_reducible refine Below.alloc ?_ ?_ _) | (with_reducible refine below_grew ?_ ?_ _) | (with_reducible refine Below.setCell ?_ ?_ _) | (with_reducible refine Below.drew ?_) | (with_reducible refine below_drewN ?_ _) | omega | (simp; done) | (simp; omega))))) n k (by omega) (by omega) (by simp; omega) (fun h9 i j hi hj => by
                  have hh := cap_half ⟨n - 9, by omega⟩
                  simp only [show n - 9 + 9 = n by omega] at hh
                  have := hT4.bits_done i j (by omega) (by omega) (by
        unfold ShBk ShB
        rcases hi with rfl | rfl <;> omega)
                  simp [go_sem, this]))
                have hk33 : (k : Int) < 33 := by omega
                have hn17 : (n : Int) < 17 := by omega
                go_wp2_with fail
                first | refine wp_region_grew2 12 (by kernel_rfl) (by kernel_rfl) ?_ | refine wp_region_grew 12 (by kernel_rfl) (by kernel_rfl) ?_
                simp only [List.take_succ_cons, List.take_zero, List.drop_succ_cons, List.drop_zero]
                repeat (go_big_quiet_step (first | (go_at_call 19; exact Calls.grew_of (HW.out _))))
                refine wpQuiet_nil ?_
                rintro _ ⟨x, rfl⟩
                go_wp2
                go_roundw
                case rel => exact ⟨k + 1, by omega, by omega, by go_num, _, _, hT4.set_bits n k (by omega) (by omega) _ rfl _ (by omega) (fun _ _ d => d) fun i j hi hj d => by
                  unfold ShBk at *
                  rcases d with d | d
                  · exact .inl (.inl d)
                  · by_cases e : j = k
                    · exact .inr ⟨d.1, e⟩
                    · exact .inl (.inr ⟨d.1, by omega⟩), rfl⟩
                case measure => simp [intOf]; omega
              · have hkl' : ¬(k : Int) ≤ (cap n : Nat) := by omega
                have hn17 : (n : Int) < 17 := by omega
                go_wp2
                go_roundw
                case rel => exact ⟨n + 1, by omega, by omega, by go_num, _, _, hT4.imp (fun i _ d => d) (fun i j _ _ d => by
                  unfold ShBk ShB at *
                  by_cases e : i = n
                  · subst e; omega
                  · omega), rfl⟩
                case measure => simp [intOf]; omega
      · have hn8' : ¬(n : Int) ≤ 8 := by omega
        have hn17 : (n : Int) < 17 := by omega
        have hh := cap_half ⟨n - 9, by omega⟩
        simp only [show n - 9 + 9 = n by omega] at hh
        have g1 := hT.cap_done (n / 2) (by omega) (by unfold ShC; omega)
        have g2 := hT.cap_done (n - n / 2) (by omega) (by unfold ShC; omega)
        obtain ⟨y0, f0, _⟩ := hT.caps n (by omega)
        have hdiv : (n : Int) / 2 < 17 := by omega
        have hdiv0 : (0 : Int) ≤ (n : Int) / 2 := by omega
        have hdf : (n : Int) - (n : Int) / 2 < 17 := by omega
        have hdf0 : (0 : Int) ≤ (n : Int) - (n : Int) / 2 := by omega
        rw [show capG (n / 2) = (cap (n / 2) : Nat) from by unfold capG; rw [if_neg (by omega)]] at g1
        rw [show capG (n - n / 2) = (cap (n - n / 2) : Nat) from by unfold capG; rw [if_neg (by omega)]] at g2
        go_wp2_with fail
        first | refine wp_region_grew2 22 (by kernel_rfl) (by kernel_rfl) ?_ | refine wp_region_grew 22 (by kernel_rfl) (by kernel_rfl) ?_
        simp only [List.take_succ_cons, List.take_zero, List.drop_succ_cons, List.drop_zero]
        repeat (go_big_quiet_step (fail))
        refine wpQuiet_nil ?_
        rintro _ ⟨x, rfl⟩
        go_wp2
        have hTb : ShSt (cs2.setIfInBounds n (.int .i64 (min (cap (n / 2) : Nat) (cap (n - n / 2) : Nat)))) (ShC (n + 1)) (ShB n) := hT.set_cap n (by omega) _ (fun _ => by unfold capG; rw [if_neg (by omega), hh]; omega) (fun i hi hne d => by unfold ShC at *; omega) (fun _ _ _ _ d => d)
        go_loopw [5] (fun cnt wr => ∃ k : Nat, 1 ≤ k ∧ k ≤ cap n + 1 ∧ cnt = .int .i64 k ∧ ∃ cs x, ShSt cs (ShC (n + 1)) (ShBk n k) ∧ wr = (w.alloc (.cells cs 45)).grew x) (fun cnt _ => cap n + 1 - (intOf cnt).toNat)
        case atStart => exact ⟨1, by omega, by omega, rfl, _, _, hTb.imp (fun i _ d => d) (fun i j _ _ d => ShBk.one d), rfl⟩
        case round =>
          obtain ⟨k, hk1, hk, rfl, cs4, x4, hT4, rfl⟩ := hrel
          have hsz4 := hT4.size
          have c32 := cap_le32 n (by omega)
          have c1 := hT4.cap_done n (by omega) (by unfold ShC; omega)
          rw [show capG n = (cap n : Nat) from by unfold capG; rw [if_neg (by omega)]] at c1
          by_cases hkl : k ≤ cap n
          · have hkl' : (k : Int) ≤ (cap n : Nat) := by omega
            obtain ⟨y4, c2, _⟩ := hT4.bits n k (by omega) (by omega)
            have HW := Lib.hid (fun x => work_any w.heap.size t ((w.alloc (.cells cs4 45)).grew x) (HT.out.below ht (by (repeat' (first | (with_reducible exact Below.refl _ _) | (with_reducible assumption) | (with_reducible refine Below.alloc ?_ ?_ _) | (with_reducible refine below_grew ?_ ?_ _) | (with_reducible refine Below.setCell ?_ ?_ _) | (with_reducible refine Below.drew ?_) | (with_reducible refine below_drewN ?_ _) | omega | (simp; done) | (simp; omega))))) n k (by omega) (by omega) (by simp; omega) (fun h9 i j hi hj => by
              have hh := cap_half ⟨n - 9, by omega⟩
              simp only [show n - 9 + 9 = n by omega] at hh
              have := hT4.bits_done i j (by omega) (by omega) (by
    unfold ShBk ShB
    rcases hi with rfl | rfl <;> omega)
              simp [go_sem, this]))
            have hk33 : (k : Int) < 33 := by omega
            have hn17 : (n : Int) < 17 := by omega
            go_wp2_with fail
            first | refine wp_region_grew2 12 (by kernel_rfl) (by kernel_rfl) ?_ | refine wp_region_grew 12 (by kernel_rfl) (by kernel_rfl) ?_
            simp only [List.take_succ_cons, List.take_zero, List.drop_succ_cons, List.drop_zero]
            repeat (go_big_quiet_step (first | (go_at_call 19; exact Calls.grew_of (HW.out _))))
            refine wpQuiet_nil ?_
            rintro _ ⟨x, rfl⟩
            go_wp2
            go_roundw
            case rel => exact ⟨k + 1, by omega, by omega, by go_num, _, _, hT4.set_bits n k (by omega) (by omega) _ rfl _ (by omega) (fun _ _ d => d) fun i j hi hj d => by
              unfold ShBk at *
              rcases d with d | d
              · exact .inl (.inl d)
              · by_cases e : j = k
                · exact .inr ⟨d.1, e⟩
                · exact .inl (.inr ⟨d.1, by omega⟩), rfl⟩
            case measure => simp [intOf]; omega
          · have hkl' : ¬(k : Int) ≤ (cap n : Nat) := by omega
            have hn17 : (n : Int) < 17 := by omega
            go_wp2
            go_roundw
            case rel => exact ⟨n + 1, by omega, by omega, by go_num, _, _, hT4.imp (fun i _ d => d) (fun i j _ _ d => by
              unfold ShBk ShB at *
              by_cases e : i = n
              · subst e; omega
              · omega), rfl⟩
            case measure => simp [intOf]; omega
    · have hlt' : ¬(n : Int) ≤ 16 := by omega
      go_wp2
      go_ret
      obtain rfl : n = 17 := by omega
      refine ⟨w.heap.size, rfl, Nat.le_refl _, ⟨cs2, ?_, hT⟩, by (repeat' (first | (with_reducible exact Below.refl _ _) | (with_reducible assumption) | (with_reducible refine Below.alloc ?_ ?_ _) | (with_reducible refine below_grew ?_ ?_ _) | (with_reducible refine Below.setCell ?_ ?_ _) | (with_reducible refine Below.drew ?_) | (with_reducible refine below_drewN ?_ _) | omega | (simp; done) | (simp; omega)))⟩
      rw [World.grew_block _ _ _ (by simp)]
      exact heap_alloc_new w _
end Go.Proofs.Ytmcjbejccelagaa
