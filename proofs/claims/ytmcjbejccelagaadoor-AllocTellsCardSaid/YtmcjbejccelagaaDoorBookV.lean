/-
  Book.V: how many vectors there are, whatever is noted.
-/
import Derived.Test.YtmcjbejccelagaaDoorBook
import Derived.Test.YtmcjbejccelagaaDoorProg
import Derived.StillTailTactics
namespace Go.Proofs.YtmcjbejccelagaaDoor
open Go.RowKit Go.BigFrame Go.Vec
set_option linter.unusedSimpArgs false

abbrev Book (b m : Nat) (w : World) : Prop := BookOK 114 b m w

theorem pair_check : ∀ e n k w, (Instr.checkKey e 10000 141 (.agg #[.int .i64 n, .int .i64 k])).run Tryd.prog w = .ok () w := fun _ _ _ _ => by kernel_rfl
theorem pair_layout : layout Tryd.prog 2 141 = some [.int .i64, .int .i64] := by kernel_rfl
theorem pair_agg : isAggB Tryd.prog 141 = true := by kernel_rfl
theorem u64_zero : ∀ w, (zeroValue 63).run Tryd.prog w = .ok (.int .u64 0) w := fun _ => by kernel_rfl

theorem right_any (n k : Int) (w : World) : Calls Tryd.prog 95 #[.agg #[.int .i64 n, .int .i64 k]] w fun e w' => e = .returned (.bool (decide (0 ≤ n ∧ n ≤ 16 ∧ 0 ≤ k ∧ k ≤ 32))) ∧ Below w.heap.size w w' := by
  by_cases h1 : 0 ≤ n
  · by_cases h2 : n ≤ 16
    · by_cases h3 : 0 ≤ k
      · by_cases h4 : k ≤ 32
        · skip
          go_enter Tryd.func95, Tryd.ntmps95
          go_wp2
          go_ret
          exact ⟨ret_bool (by first | rfl | (simp; done) | (simp; omega)), by (repeat' (first | (with_reducible exact Below.refl _ _) | (with_reducible assumption) | (with_reducible refine Below.alloc ?_ ?_ _) | (with_reducible refine below_grew ?_ ?_ _) | (with_reducible refine Below.setCell ?_ ?_ _) | (with_reducible refine Below.drew ?_) | (with_reducible refine below_drewN ?_ _) | omega | (simp; done) | (simp; omega)))⟩
        · skip
          go_enter Tryd.func95, Tryd.ntmps95
          go_wp2
          go_ret
          exact ⟨ret_bool (by first | rfl | (simp; done) | (simp; omega)), by (repeat' (first | (with_reducible exact Below.refl _ _) | (with_reducible assumption) | (with_reducible refine Below.alloc ?_ ?_ _) | (with_reducible refine below_grew ?_ ?_ _) | (with_reducible refine Below.setCell ?_ ?_ _) | (with_reducible refine Below.drew ?_) | (with_reducible refine below_drewN ?_ _) | omega | (simp; done) | (simp; omega)))⟩
      · skip
        go_enter Tryd.func95, Tryd.ntmps95
        go_wp2
        go_ret
        exact ⟨ret_bool (by first | rfl | (simp; done) | (simp; omega)), by (repeat' (first | (with_reducible exact Below.refl _ _) | (with_reducible assumption) | (with_reducible refine Below.alloc ?_ ?_ _) | (with_reducible refine below_grew ?_ ?_ _) | (with_reducible refine Below.setCell ?_ ?_ _) | (with_reducible refine Below.drew ?_) | (with_reducible refine below_drewN ?_ _) | omega | (simp; done) | (simp; omega)))⟩
    · skip
      go_enter Tryd.func95, Tryd.ntmps95
      go_wp2
      go_ret
      exact ⟨ret_bool (by first | rfl | (simp; done) | (simp; omega)), by (repeat' (first | (with_reducible exact Below.refl _ _) | (with_reducible assumption) | (with_reducible refine Below.alloc ?_ ?_ _) | (with_reducible refine below_grew ?_ ?_ _) | (with_reducible refine Below.setCell ?_ ?_ _) | (with_reducible refine Below.drew ?_) | (with_reducible refine below_drewN ?_ _) | omega | (simp; done) | (simp; omega)))⟩
  · skip
    go_enter Tryd.func95, Tryd.ntmps95
    go_wp2
    go_ret
    exact ⟨ret_bool (by first | rfl | (simp; done) | (simp; omega)), by (repeat' (first | (with_reducible exact Below.refl _ _) | (with_reducible assumption) | (with_reducible refine Below.alloc ?_ ?_ _) | (with_reducible refine below_grew ?_ ?_ _) | (with_reducible refine Below.setCell ?_ ?_ _) | (with_reducible refine Below.drew ?_) | (with_reducible refine below_drewN ?_ _) | omega | (simp; done) | (simp; omega)))⟩

theorem v_base (n k : Int) (h : ¬(0 ≤ n ∧ n ≤ 16 ∧ 0 ≤ k ∧ k ≤ 32) ∨ (0 ≤ n ∧ n ≤ 16 ∧ k = 0) ∨ (n = 0 ∧ 1 ≤ k ∧ k ≤ 32)) (p : Value) (w : World) :
    Calls Tryd.prog 92 #[p, .int .i64 n, .int .i64 k] w fun e w' => e = .returned (.int .u64 (vF n k)) ∧ Below w.heap.size w w' := by
  have hr := Lib.hid (fun w => right_any n k w)
  rcases h with h | ⟨h1, h2, rfl⟩ | ⟨rfl, h1, h2⟩
  · have E := Lib.hid (vF_out n k h)
    rw [decide_eq_false h] at hr
    clear h
    go_enter Tryd.func92, Tryd.ntmps92
    go_wp2_with (go_at_call 95; refine (hr.out _).mono ?_; rintro e w' ⟨rfl, hb1⟩; obtain ⟨x1, rfl⟩ := below_as_grew hb1; clear hb1)
    go_ret
    exact ⟨ret_int (by rw [E.out]), by (repeat' (first | (with_reducible exact Below.refl _ _) | (with_reducible assumption) | (with_reducible refine Below.alloc ?_ ?_ _) | (with_reducible refine below_grew ?_ ?_ _) | (with_reducible refine Below.setCell ?_ ?_ _) | (with_reducible refine Below.drew ?_) | (with_reducible refine below_drewN ?_ _) | omega | (simp; done) | (simp; omega)))⟩
  · have E := Lib.hid (vF_zero n ⟨h1, h2⟩)
    rw [decide_eq_true (by omega)] at hr
    go_enter Tryd.func92, Tryd.ntmps92
    go_wp2_with (go_at_call 95; refine (hr.out _).mono ?_; rintro e w' ⟨rfl, hb1⟩; obtain ⟨x1, rfl⟩ := below_as_grew hb1; clear hb1)
    go_ret
    exact ⟨ret_int (by rw [E.out]), by (repeat' (first | (with_reducible exact Below.refl _ _) | (with_reducible assumption) | (with_reducible refine Below.alloc ?_ ?_ _) | (with_reducible refine below_grew ?_ ?_ _) | (with_reducible refine Below.setCell ?_ ?_ _) | (with_reducible refine Below.drew ?_) | (with_reducible refine below_drewN ?_ _) | omega | (simp; done) | (simp; omega)))⟩
  · have E := Lib.hid (vF_none k ⟨h1, h2⟩)
    rw [decide_eq_true (by omega)] at hr
    have hk : (k == 0) = false := by rw [beq_eq_false_iff_ne]; omega
    go_enter Tryd.func92, Tryd.ntmps92
    go_wp2_with (go_at_call 95; refine (hr.out _).mono ?_; rintro e w' ⟨rfl, hb1⟩; obtain ⟨x1, rfl⟩ := below_as_grew hb1; clear hb1)
    go_ret
    exact ⟨ret_int (by rw [E.out]), by (repeat' (first | (with_reducible exact Below.refl _ _) | (with_reducible assumption) | (with_reducible refine Below.alloc ?_ ?_ _) | (with_reducible refine below_grew ?_ ?_ _) | (with_reducible refine Below.setCell ?_ ?_ _) | (with_reducible refine Below.drew ?_) | (with_reducible refine below_drewN ?_ _) | omega | (simp; done) | (simp; omega)))⟩

def VSaid (b m : Nat) (n k : Int) : Prop := ∀ w, Book b m w → Calls Tryd.prog 92 #[.pointer (some ⟨b, 0, none⟩), .int .i64 n, .int .i64 k] w fun e w' => e = .returned (.int .u64 (vF n k)) ∧ Bk m w w'

theorem v_step (b m : Nat) (n k : Int) (hn : 1 ≤ n ∧ n ≤ 16) (hk : 1 ≤ k ∧ k ≤ 32) (i1 : VSaid b m (n - 1) k) (i2 : VSaid b m n (k - 1)) (i3 : VSaid b m (n - 1) (k - 1)) : VSaid b m n k := by
  intro w hB
  have hr := Lib.hid (fun w => right_any n k w)
  rw [decide_eq_true (by omega)] at hr
  have hk0 : (k == 0) = false := by rw [beq_eq_false_iff_ne]; omega
  have hn0 : (n == 0) = false := by rw [beq_eq_false_iff_ne]; omega
  have esum := Lib.hid (show IntKind.u64.wrap (IntKind.u64.wrap (vF (n - 1) k + vF n (k - 1)) + vF (n - 1) (k - 1)) = vF n k from by
    rw [vF_rec n k hn hk]
    have b1 := vF_bd (n - 1) k
    have b2 := vF_bd n (k - 1)
    have b3 := vF_bd (n - 1) (k - 1)
    rw [IntWalk.u64_in (vF (n - 1) k + vF n (k - 1)) (by omega), IntWalk.u64_in _ (by omega)])
  obtain ⟨es, clk, hh, hg⟩ := hB.map
  have hbm := hB.ne
  have hbl := hB.lt_b
  have hml := hB.lt_m
  have hcell := hB.cell
  have hlk := run_lookup_all (P := Tryd.prog) Tryd.underlying112 ⟨_, Tryd.underlying141⟩ pair_layout pair_agg u64_zero pair_check n k m es clk hg
  obtain ⟨n1, n2⟩ := hn
  obtain ⟨k1, k2⟩ := hk
  have I1 := Lib.hid i1
  have I2 := Lib.hid i2
  have I3 := Lib.hid i3
  have hw : ∀ (o : Obj) (x : Grown.By), ((w.alloc o).grew x).heap[m]? = some (.map es clk) := fun o x => by
    rw [World.grew_block _ _ _ (by simp; omega), World.heap_alloc_past _ _ _ hml, hh]
  rcases hlk with hl | hl
  · have hl' := fun o x => hl _ (hw o x)
    clear i1 i2 i3 hl hw
    go_enter Tryd.func92, Tryd.ntmps92
    go_wp2_with (go_at_call 95; refine (hr.out _).mono ?_; rintro e w' ⟨rfl, hb1⟩; obtain ⟨x1, rfl⟩ := below_as_grew hb1; clear hb1)
    go_quiet (fail)
    go_wp2
    go_ret
    exact ⟨rfl, bkInv_as (by (repeat' (first | (with_reducible assumption) | (with_reducible exact BookOK.refl ‹_›) | (with_reducible refine BkInv.alloc ?_ _) | (with_reducible refine BkInv.grew ?_ _) | (with_reducible refine BkInv.bkd ?_ _) | (with_reducible refine BkInv.setCell ?_ ?_ _) | (with_reducible refine BkInv.drew ?_) | (with_reducible refine BkInv.drewN ?_ _) | omega | (simp; done) | (simp; omega))))⟩
  · have hl' := fun o x => hl _ (hw o x)
    clear i1 i2 i3 hl hw
    go_enter Tryd.func92, Tryd.ntmps92
    go_wp2_with (go_at_call 95; refine (hr.out _).mono ?_; rintro e w' ⟨rfl, hb1⟩; obtain ⟨x1, rfl⟩ := below_as_grew hb1; clear hb1)
    go_quiet (fail)
    go_wp2_with fail
    refine (I1.out _ (hB.inv (by (repeat' (first | (with_reducible assumption) | (with_reducible exact BookOK.refl ‹_›) | (with_reducible refine BkInv.alloc ?_ _) | (with_reducible refine BkInv.grew ?_ _) | (with_reducible refine BkInv.bkd ?_ _) | (with_reducible refine BkInv.setCell ?_ ?_ _) | (with_reducible refine BkInv.drew ?_) | (with_reducible refine BkInv.drewN ?_ _) | omega | (simp; done) | (simp; omega)))))).mono ?_
    rintro e w' ⟨rfl, y1, rfl⟩
    go_wp2_with fail
    refine (I2.out _ (hB.inv (by (repeat' (first | (with_reducible assumption) | (with_reducible exact BookOK.refl ‹_›) | (with_reducible refine BkInv.alloc ?_ _) | (with_reducible refine BkInv.grew ?_ _) | (with_reducible refine BkInv.bkd ?_ _) | (with_reducible refine BkInv.setCell ?_ ?_ _) | (with_reducible refine BkInv.drew ?_) | (with_reducible refine BkInv.drewN ?_ _) | omega | (simp; done) | (simp; omega)))))).mono ?_
    rintro e w' ⟨rfl, y2, rfl⟩
    go_wp2_with fail
    refine (I3.out _ (hB.inv (by (repeat' (first | (with_reducible assumption) | (with_reducible exact BookOK.refl ‹_›) | (with_reducible refine BkInv.alloc ?_ _) | (with_reducible refine BkInv.grew ?_ _) | (with_reducible refine BkInv.bkd ?_ _) | (with_reducible refine BkInv.setCell ?_ ?_ _) | (with_reducible refine BkInv.drew ?_) | (with_reducible refine BkInv.drewN ?_ _) | omega | (simp; done) | (simp; omega)))))).mono ?_
    rintro e w' ⟨rfl, y3, rfl⟩
    go_wp2_with fail
    refine cut_world (fun W => BkInv m w W ∧ W.cell? ⟨w.heap.size, 0, none⟩ = some (.int .i64 n) ∧ W.cell? ⟨w.heap.size, 1, none⟩ = some (.int .i64 k)) ⟨by (repeat' (first | (with_reducible assumption) | (with_reducible exact BookOK.refl ‹_›) | (with_reducible refine BkInv.alloc ?_ _) | (with_reducible refine BkInv.grew ?_ _) | (with_reducible refine BkInv.bkd ?_ _) | (with_reducible refine BkInv.setCell ?_ ?_ _) | (with_reducible refine BkInv.drew ?_) | (with_reducible refine BkInv.drewN ?_ _) | omega | (simp; done) | (simp; omega))), by simp [go_sem, Nat.ne_of_lt hml], by simp [go_sem, Nat.ne_of_lt hml]⟩ ?_
    rintro W ⟨hbk, c1, c2⟩
    have c0 := (hB.inv hbk).cell
    have d0 := (hB.inv hbk).lt_b
    have d1 : w.heap.size < W.heap.size := Nat.lt_of_not_le fun hh => by simp [World.cell?, Array.getElem?_eq_none hh] at c1
    obtain ⟨es2, clk2, hh2, hg2⟩ := hbk.map
    first | refine wp_region_grew2 6 (by kernel_rfl) (by kernel_rfl) ?_ | refine wp_region_grew 6 (by kernel_rfl) (by kernel_rfl) ?_
    simp only [List.take_succ_cons, List.take_zero, List.drop_succ_cons, List.drop_zero]
    repeat (go_big_quiet_step (fail))
    refine wpQuiet_nil ?_
    rintro _ ⟨x, rfl⟩
    obtain ⟨es3, clk3, hg3, hu⟩ := run_update_book (P := Tryd.prog) Tryd.underlying112 ⟨_, Tryd.underlying141⟩ pair_layout pair_agg pair_check n k m (W.grew x) es2 clk2 (by rw [World.grew_block _ _ _ (Array.getElem?_eq_some_iff.1 hh2).1, hh2]) hg2
    rw [← esum.out] at hu
    go_wp2
    go_ret
    exact ⟨ret_int esum.out, bkInv_as (by (repeat' (first | (with_reducible assumption) | (with_reducible exact BookOK.refl ‹_›) | (with_reducible refine BkInv.alloc ?_ _) | (with_reducible refine BkInv.grew ?_ _) | (with_reducible refine BkInv.bkd ?_ _) | (with_reducible refine BkInv.setCell ?_ ?_ _) | (with_reducible refine BkInv.drew ?_) | (with_reducible refine BkInv.drewN ?_ _) | omega | (simp; done) | (simp; omega))))⟩

theorem v_any (b m : Nat) : ∀ (d : Nat) (n k : Int), n.toNat + k.toNat ≤ d → VSaid b m n k := by
  intro d
  induction d with
  | zero =>
    intro n k hd w hB
    by_cases h : 0 ≤ n ∧ n ≤ 16 ∧ 0 ≤ k ∧ k ≤ 32
    · refine (v_base n k (.inr (.inl ⟨h.1, h.2.1, by omega⟩)) _ w).mono fun e w' ⟨he, hb⟩ => ⟨he, bkInv_as (hB.refl.below hb)⟩
    · refine (v_base n k (.inl h) _ w).mono fun e w' ⟨he, hb⟩ => ⟨he, bkInv_as (hB.refl.below hb)⟩
  | succ d ih =>
    intro n k hd w hB
    by_cases h : 0 ≤ n ∧ n ≤ 16 ∧ 0 ≤ k ∧ k ≤ 32
    · by_cases hk : k = 0
      · refine (v_base n k (.inr (.inl ⟨h.1, h.2.1, hk⟩)) _ w).mono fun e w' ⟨he, hb⟩ => ⟨he, bkInv_as (hB.refl.below hb)⟩
      · by_cases hn : n = 0
        · refine (v_base n k (.inr (.inr ⟨hn, by omega, by omega⟩)) _ w).mono fun e w' ⟨he, hb⟩ => ⟨he, bkInv_as (hB.refl.below hb)⟩
        · exact v_step b m n k (by omega) (by omega) (ih _ _ (by omega)) (ih _ _ (by omega)) (ih _ _ (by omega)) w hB
    · refine (v_base n k (.inl h) _ w).mono fun e w' ⟨he, hb⟩ => ⟨he, bkInv_as (hB.refl.below hb)⟩

theorem bookV (b m : Nat) (n k : Int) (w : World) (hB : Book b m w) : Calls Tryd.prog 92 #[.pointer (some ⟨b, 0, none⟩), .int .i64 n, .int .i64 k] w fun e w' => e = .returned (.int .u64 (vF n k)) ∧ Bk m w w' :=
  v_any b m _ n k (Nat.le_refl _) w hB

/-- A new book. -/
theorem bookNew (w : World) : Calls Tryd.prog 28 #[] w fun e w' => ∃ b m, e = .returned (.pointer (some ⟨b, 0, none⟩)) ∧ w.heap.size ≤ b ∧ w.heap.size ≤ m ∧ Book b m w' ∧ Below w.heap.size w w' := by
  have hmm := @run_makeMap Tryd.prog
  go_enter Tryd.func28, Tryd.ntmps28
  go_wp2
  go_ret
  refine ⟨w.heap.size + 1, w.heap.size, rfl, ?_, ?_, ⟨?_, ?_, #[], 0, ?_, ?_⟩, ?_⟩
  · simp
  · exact Nat.le_refl _
  · exact heap_alloc2_new w _ _
  · simp
  · rw [World.heap_alloc_past _ _ _ (by simp)]; exact heap_alloc_new w _
  · intro e h; simp at h
  · (repeat' (first | (with_reducible exact Below.refl _ _) | (with_reducible assumption) | (with_reducible refine Below.alloc ?_ ?_ _) | (with_reducible refine below_grew ?_ ?_ _) | (with_reducible refine Below.setCell ?_ ?_ _) | (with_reducible refine Below.drew ?_) | (with_reducible refine below_drewN ?_ _) | omega | (simp; done) | (simp; omega)))
end Go.Proofs.YtmcjbejccelagaaDoor
