/-
  The table (package table).
-/
import Derived.Test.YtmcjbejccelagaaVec
import Derived.Test.YtmcjbejccelagaaKit
import Derived.Test.YtmcjbejccelagaaProg
import Derived.StillTailTactics
import Derived.Deep.MidRow
import Derived.Test.YtmcjbejccelagaaIdx
namespace Go.Proofs.Ytmcjbejccelagaa
open Go.RowKit Go.BigFrame Go.Vec
set_option linter.unusedSimpArgs false

def tabZ : Array Value := Array.replicate 1139 (.int .u64 0)
theorem tab_zero : ∃ cs, (∀ w, (zeroValue 53).run Try.prog w = .ok (.agg cs) w) ∧ cs.size = 1139 ∧ ∀ i, i < 1139 → cs[i]? = some (.int .u64 0) := by
  refine ⟨tabZ, fun _ => by kernel_rfl, by unfold tabZ; simp, fun i hi => ?_⟩
  unfold tabZ
  simp [hi]

/-- What stands in the table: V, and what V add up to. -/
def sm (n : Nat) : Nat → Nat
  | 0 => 0
  | k + 1 => sm n k + v n k
def tabG (i j : Nat) : Nat := if j < 33 then v i j else sm i (j - 33)
theorem tabG_le : ∀ i : Fin 17, ∀ j : Fin 67, tabG i.val j.val ≤ 4000000000000000000 := by decide +kernel
/-- Cells that are whole numbers; those that D names are as they shall be. -/
structure TabSt (cs : Array Value) (D : Nat → Nat → Prop) : Prop where
  size : cs.size = 1139
  at_ : ∀ i j, i < 17 → j < 67 → ∃ y : Int, cs[i * 67 + j]? = some (.int .u64 y) ∧ (D i j → y = (tabG i j : Nat))
theorem TabSt.done {cs : Array Value} {D : Nat → Nat → Prop} (h : TabSt cs D) (i j : Nat) (hi : i < 17) (hj : j < 67) (hd : D i j) : cs[i * 67 + j]? = some (.int .u64 (tabG i j : Nat)) := by
  obtain ⟨y, h1, h2⟩ := h.at_ i j hi hj
  rw [h1, h2 hd]
theorem TabSt.imp {cs : Array Value} {D D' : Nat → Nat → Prop} (h : TabSt cs D) (hd : ∀ i j, i < 17 → j < 67 → D' i j → D i j) : TabSt cs D' :=
  ⟨h.size, fun i j hi hj => by
    obtain ⟨y, h1, h2⟩ := h.at_ i j hi hj
    exact ⟨y, h1, fun d => h2 (hd i j hi hj d)⟩⟩
theorem TabSt.set {cs : Array Value} {D D' : Nat → Nat → Prop} (h : TabSt cs D) (i0 j0 : Nat) (hi : i0 < 17) (hj : j0 < 67) (x : Int) (hx : x = (tabG i0 j0 : Nat)) (o : Nat) (ho : o = i0 * 67 + j0)
    (hd : ∀ i j, i < 17 → j < 67 → D' i j → D i j ∨ (i = i0 ∧ j = j0)) : TabSt (cs.setIfInBounds o (.int .u64 x)) D' := by
  subst ho hx
  refine ⟨by simp [h.size], fun i j hi' hj' => ?_⟩
  by_cases e : i = i0 ∧ j = j0
  · obtain ⟨rfl, rfl⟩ := e
    exact ⟨_, Array.getElem?_setIfInBounds_self_of_lt (by rw [h.size]; omega), fun _ => rfl⟩
  · obtain ⟨y, h1, h2⟩ := h.at_ i j hi' hj'
    refine ⟨y, ?_, fun d => ?_⟩
    · rw [Array.getElem?_setIfInBounds_ne (by omega)]; exact h1
    · rcases hd i j hi' hj' d with d | d
      · exact h2 d
      · exact absurd d e
theorem tab_row0 : ∀ k : Fin 33, tabG 0 k.val = if k.val = 0 then 1 else 0 := by decide +kernel
def DO (n i j : Nat) : Prop := i < n ∨ (i = 0 ∧ j < 33) ∨ j = 33
def DV (n k i j : Nat) : Prop := DO n i j ∨ (i = n ∧ j < k)
def DS (n k i j : Nat) : Prop := DO n i j ∨ (i = n ∧ j < 34 + k)
theorem tab_first (cs : Array Value) (hs : cs.size = 1139) (h : ∀ i, i < 1139 → cs[i]? = some (.int .u64 0)) : TabSt (cs.setIfInBounds 0 (.int .u64 1)) (DO 0) := by
  refine ⟨by simp [hs], fun i j hi hj => ?_⟩
  by_cases e : i * 67 + j = 0
  · have e1 : i = 0 := by omega
    have e2 : j = 0 := by omega
    subst e1 e2
    exact ⟨1, Array.getElem?_setIfInBounds_self_of_lt (by rw [hs]; omega), fun _ => rfl⟩
  · refine ⟨0, by rw [Array.getElem?_setIfInBounds_ne (by omega)]; exact h _ (by omega), fun d => ?_⟩
    unfold DO at d
    rcases d with d | ⟨rfl, d⟩ | rfl
    · omega
    · have := tab_row0 ⟨j, d⟩
      simp only at this
      rw [this, if_neg (by omega)]
      rfl
    · simp [tabG, sm]

theorem tab_next (n k : Nat) (hn : n < 17) (hk : k < 33) : IntKind.u64.wrap ((tabG n (33 + k) : Nat) + (v n k : Nat) : Int) = (tabG n (33 + (k + 1)) : Nat) := by
  have h := tabG_le ⟨n, hn⟩ ⟨33 + (k + 1), by omega⟩
  simp only [tabG, if_neg (show ¬33 + (k + 1) < 33 by omega), if_neg (show ¬33 + k < 33 by omega), show 33 + (k + 1) - 33 = k + 1 by omega, show 33 + k - 33 = k by omega] at *
  simp only [sm] at *
  rw [IntKind.wrap_u64]
  omega

/-- A table lies at block b. -/
def TableOK (b : Nat) (w : World) : Prop := ∃ cs, w.heap[b]? = some (.cells cs 53 (0, 0)) ∧ TabSt cs (DO 17)
theorem TableOK.below {b B : Nat} {w w' : World} (h : TableOK b w) (hb : b < B) (hw : Below B w w') : TableOK b w' := by
  obtain ⟨cs, h1, h2⟩ := h
  exact ⟨cs, (hw.block b hb).trans h1, h2⟩
theorem tab_rec (n k : Nat) (hn0 : 1 ≤ n) (hn : n < 17) (hk0 : 1 ≤ k) (hk : k < 33) : IntKind.u64.wrap (IntKind.u64.wrap ((tabG (n - 1) k : Nat) + (tabG n (k - 1) : Nat) : Int) + (tabG (n - 1) (k - 1) : Nat)) = (tabG n k : Nat) := by
  have h := v_rec ⟨n - 1, by omega⟩ ⟨k - 1, by omega⟩
  have h1 := v_le ⟨n, hn⟩ ⟨k, hk⟩
  simp only [show n - 1 + 1 = n by omega, show k - 1 + 1 = k by omega] at h h1
  simp only [tabG, if_pos hk, if_pos (show k - 1 < 33 by omega)]
  rw [IntKind.wrap_u64, IntKind.wrap_u64]
  omega
theorem tab_one (n : Nat) (hn : n < 17) : tabG n 0 = 1 := by
  have := v_zero ⟨n, hn⟩
  simpa [tabG] using this

set_option maxRecDepth 100000 in
theorem tabNew (w : World) : Calls Try.prog 10 #[] w fun e w' => ∃ b, e = .returned (.pointer (some ⟨b, 0, none⟩)) ∧ w.heap.size ≤ b ∧ TableOK b w' ∧ Below w.heap.size w w' := by
  obtain ⟨cs, hz, hsz, hfz⟩ := tab_zero
  have hS := Lib.hid (tab_first cs hsz hfz)
  have h0 := hfz 0 (by omega)
  clear hfz
  go_enter Try.func10, Try.ntmps10
  go_wp2
  clear h0 hz hsz
  go_loopw [16] (fun cnt wr => ∃ n : Nat, n ≤ 17 ∧ cnt = .int .i64 n ∧ ∃ cs x, TabSt cs (DO n) ∧ wr = (w.alloc (.cells cs 53)).grew x) (fun cnt _ => 17 - (intOf cnt).toNat)
  case atStart => exact ⟨0, by omega, rfl, _, _, hS.out, (World.grew_none _).symm⟩
  case round =>
    obtain ⟨n, hn, rfl, cs2, x2, hT, rfl⟩ := hrel
    by_cases hlt : n < 17
    · have hlt' : (n : Int) < 17 := by omega
      have hsz := hT.size
      by_cases hn0 : (0 : Int) < n
      · have hn0' : ¬(n : Int) ≤ 0 := by omega
        have hn1 : (0 : Int) ≤ (n : Int) - 1 := by omega
        have hn2 : ((n : Int) - 1) < 17 := by omega
        obtain ⟨y0, f0, _⟩ := hT.at_ n 0 (by omega) (by omega)
        have hsz := hT.size
        rw [Nat.add_zero] at f0
        go_wp2_with fail
        go_loopw [5] (fun cnt wr => ∃ k : Nat, 1 ≤ k ∧ k ≤ 33 ∧ cnt = .int .i64 k ∧ ∃ cs x, TabSt cs (DV n k) ∧ wr = (w.alloc (.cells cs 53)).grew x) (fun cnt _ => 33 - (intOf cnt).toNat)
        case atStart => exact ⟨1, by omega, by omega, rfl, _, _, hT.set n 0 (by omega) (by omega) _ (by rw [tab_one n (by omega)]; rfl) _ (by omega) fun i j hi hj d => by
            unfold DV DO at *
            omega, rfl⟩
        case round =>
          obtain ⟨k, hk1, hk, rfl, csv, xv, hTv, rfl⟩ := hrel
          by_cases hkl : k < 33
          · have hkl' : (k : Int) < 33 := by omega
            have hsv := hTv.size
            have hk0 : (0 : Int) ≤ (k : Int) - 1 := by omega
            have hk33 : (k : Int) - 1 < 33 := by omega
            have u1 := hTv.done (n - 1) k (by omega) (by omega) (by unfold DV DO; omega)
            have u2 := hTv.done n (k - 1) (by omega) (by omega) (by unfold DV DO; omega)
            have u3 := hTv.done (n - 1) (k - 1) (by omega) (by omega) (by unfold DV DO; omega)
            obtain ⟨y, c2, _⟩ := hTv.at_ n k (by omega) (by omega)
            have E := Lib.hid (tab_rec n k (by omega) hlt hk1 hkl)
            go_wp2_with fail
            first | refine wp_region_grew2 27 (by kernel_rfl) (by kernel_rfl) ?_ | refine wp_region_grew 27 (by kernel_rfl) (by kernel_rfl) ?_
            simp only [List.take_succ_cons, List.take_zero, List.drop_succ_cons, List.drop_zero]
            repeat (go_big_quiet_step (fail))
            refine wpQuiet_nil ?_
            rintro _ ⟨x, rfl⟩
            go_wp2
            go_roundw
            case rel => exact ⟨k + 1, by omega, by omega, by go_num, _, _, hTv.set n k (by omega) (by omega) _ E.out _ (by omega) fun i j hi hj d => by
              unfold DV DO at *
              omega, rfl⟩
            case measure => simp [intOf]; omega
          · have hkl' : ¬(k : Int) < 33 := by omega
            have hT2 : TabSt csv (DV n 33) := hTv.imp fun i j hi hj d => by
              unfold DV DO at *
              omega
            have hsv := hTv.size
            obtain ⟨row, hrow⟩ : ∃ row : List Value, row = (List.range 33).map fun k => Value.int .u64 (v n k : Nat) := ⟨_, rfl⟩
            have hrl : row.length = 33 := by rw [hrow]; simp
            have hra : ∀ k, k < 33 → row[k]? = some (.int .u64 (v n k : Nat)) := fun k hk => by rw [hrow]; simp [hk]
            have hrg : ((w.alloc (.cells csv 53)).grew xv).rangeAt w.heap.size (n * 67) row := by
              intro j y hy
              have hj : j < 33 := by
                have := (List.getElem?_eq_some_iff.1 hy).1
                omega
              have h1 := hT2.done n j (by omega) (by omega) (.inr ⟨rfl, hj⟩)
              rw [hra j hj] at hy
              rw [← Option.some.inj hy]
              simp only [tabG, if_pos hj] at h1
              simp [go_sem, h1]
            have HR := Lib.hid hra
            have HG := Lib.hid hrg
            have hrl0 := hrl
            have hrs : row.toArray.size = 33 := by simpa using hrl
            clear hrow hra hrg hrl
            go_wp2_with (refine wpList_load_mid rfl 47 _ rfl w.heap.size (n * 67) rfl row _ HG.out Try.underlying47 rfl (by rw [hrl0]; kernel_rfl) ?_)
            go_loopw [71] (fun cnt wr => ∃ k : Nat, k ≤ 33 ∧ cnt = .int .i64 k ∧ ∃ cs x, TabSt cs (DS n k) ∧ wr = (w.alloc (.cells cs 53)).grew x) (fun cnt _ => 33 - (intOf cnt).toNat)
            case atStart => exact ⟨0, by omega, rfl, _, _, hT2.imp fun i j hi hj d => by
                unfold DS DO DV at *
                unfold DO at *
                omega, rfl⟩
            case round =>
              obtain ⟨k, hk, rfl, cs3, x3, hT3, rfl⟩ := hrel
              by_cases hkl : k < 33
              · have hkl' : (k : Int) < 33 := by omega
                have hsz3 := hT3.size
                have hrk := HR.out k hkl
                have hix := run_index_one (P := Try.prog) 47 35 33 row.toArray k _ _ Try.underlying47 Try.underlying35 (by refine ⟨fun _ h => ?_, fun _ _ h => ?_⟩ <;> cases h) (by kernel_rfl) hkl (by rw [List.getElem?_toArray]; exact hrk)
                have c1 := hT3.done n (33 + k) (by omega) (by omega) (by unfold DS; omega)
                obtain ⟨y, c2, _⟩ := hT3.at_ n (33 + (k + 1)) (by omega) (by omega)
                have E := Lib.hid (tab_next n k (by omega) hkl)
                rw [← Nat.add_assoc] at c1 c2
                go_wp2_with fail
                first | refine wp_region_grew2 14 (by kernel_rfl) (by kernel_rfl) ?_ | refine wp_region_grew 14 (by kernel_rfl) (by kernel_rfl) ?_
                simp only [List.take_succ_cons, List.take_zero, List.drop_succ_cons, List.drop_zero]
                repeat (go_big_quiet_step (fail))
                refine wpQuiet_nil ?_
                rintro _ ⟨x, rfl⟩
                go_wp2
                go_roundw
                case rel => exact ⟨k + 1, by omega, by go_num, _, _, hT3.set n (33 + (k + 1)) (by omega) (by omega) _ E.out _ (by omega) fun i j hi hj d => by
                  unfold DS DO at *
                  omega, rfl⟩
                case measure => simp [intOf]; omega
              · have hkl' : ¬(k : Int) < 33 := by omega
                go_wp2
                go_roundw
                case rel => exact ⟨n + 1, by omega, by go_num, _, _, hT3.imp fun i j hi hj d => by
                  unfold DS
                  unfold DO at *
                  omega, rfl⟩
                case measure => simp [intOf]; omega
      · have hT2 : TabSt cs2 (DV n 33) := hT.imp fun i j hi hj d => by
          unfold DV at d
          unfold DO at *
          omega
        obtain ⟨row, hrow⟩ : ∃ row : List Value, row = (List.range 33).map fun k => Value.int .u64 (v n k : Nat) := ⟨_, rfl⟩
        have hrl : row.length = 33 := by rw [hrow]; simp
        have hra : ∀ k, k < 33 → row[k]? = some (.int .u64 (v n k : Nat)) := fun k hk => by rw [hrow]; simp [hk]
        have hrg : ((w.alloc (.cells cs2 53)).grew x2).rangeAt w.heap.size (n * 67) row := by
          intro j y hy
          have hj : j < 33 := by
            have := (List.getElem?_eq_some_iff.1 hy).1
            omega
          have h1 := hT2.done n j (by omega) (by omega) (.inr ⟨rfl, hj⟩)
          rw [hra j hj] at hy
          rw [← Option.some.inj hy]
          simp only [tabG, if_pos hj] at h1
          simp [go_sem, h1]
        have HR := Lib.hid hra
        have HG := Lib.hid hrg
        have hrl0 := hrl
        have hrs : row.toArray.size = 33 := by simpa using hrl
        clear hrow hra hrg hrl
        go_wp2_with (refine wpList_load_mid rfl 47 _ rfl w.heap.size (n * 67) rfl row _ HG.out Try.underlying47 rfl (by rw [hrl0]; kernel_rfl) ?_)
        go_loopw [71] (fun cnt wr => ∃ k : Nat, k ≤ 33 ∧ cnt = .int .i64 k ∧ ∃ cs x, TabSt cs (DS n k) ∧ wr = (w.alloc (.cells cs 53)).grew x) (fun cnt _ => 33 - (intOf cnt).toNat)
        case atStart => exact ⟨0, by omega, rfl, _, _, hT2.imp fun i j hi hj d => by
            unfold DS DO DV at *
            unfold DO at *
            omega, rfl⟩
        case round =>
          obtain ⟨k, hk, rfl, cs3, x3, hT3, rfl⟩ := hrel
          by_cases hkl : k < 33
          · have hkl' : (k : Int) < 33 := by omega
            have hsz3 := hT3.size
            have hrk := HR.out k hkl
            have hix := run_index_one (P := Try.prog) 47 35 33 row.toArray k _ _ Try.underlying47 Try.underlying35 (by refine ⟨fun _ h => ?_, fun _ _ h => ?_⟩ <;> cases h) (by kernel_rfl) hkl (by rw [List.getElem?_toArray]; exact hrk)
            have c1 := hT3.done n (33 + k) (by omega) (by omega) (by unfold DS; omega)
            obtain ⟨y, c2, _⟩ := hT3.at_ n (33 + (k + 1)) (by omega) (by omega)
            have E := Lib.hid (tab_next n k (by omega) hkl)
            rw [← Nat.add_assoc] at c1 c2
            go_wp2_with fail
            first | refine wp_region_grew2 14 (by kernel_rfl) (by kernel_rfl) ?_ | refine wp_region_grew 14 (by kernel_rfl) (by kernel_rfl) ?_
            simp only [List.take_succ_cons, List.take_zero, List.drop_succ_cons, List.drop_zero]
            repeat (go_big_quiet_step (fail))
            refine wpQuiet_nil ?_
            rintro _ ⟨x, rfl⟩
            go_wp2
            go_roundw
            case rel => exact ⟨k + 1, by omega, by go_num, _, _, hT3.set n (33 + (k + 1)) (by omega) (by omega) _ E.out _ (by omega) fun i j hi hj d => by
              unfold DS DO at *
              omega, rfl⟩
            case measure => simp [intOf]; omega
          · have hkl' : ¬(k : Int) < 33 := by omega
            go_wp2
            go_roundw
            case rel => exact ⟨n + 1, by omega, by go_num, _, _, hT3.imp fun i j hi hj d => by
              unfold DS
              unfold DO at *
              omega, rfl⟩
            case measure => simp [intOf]; omega
    · have hlt' : ¬(n : Int) < 17 := by omega
      go_wp2
      go_ret
      obtain rfl : n = 17 := by omega
      refine ⟨w.heap.size, rfl, Nat.le_refl _, ⟨cs2, ?_, hT⟩, by (repeat' (first | (with_reducible exact Below.refl _ _) | (with_reducible assumption) | (with_reducible refine Below.alloc ?_ ?_ _) | (with_reducible refine below_grew ?_ ?_ _) | (with_reducible refine Below.setCell ?_ ?_ _) | (with_reducible refine Below.drew ?_) | (with_reducible refine below_drewN ?_ _) | omega | (simp; done) | (simp; omega)))⟩
      rw [World.grew_block _ _ _ (by simp)]
      exact heap_alloc_new w _
end Go.Proofs.Ytmcjbejccelagaa
