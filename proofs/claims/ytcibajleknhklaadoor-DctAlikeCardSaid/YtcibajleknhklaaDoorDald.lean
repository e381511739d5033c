/-
  (*dct.Dct).In, walked.
  (One text out of these parts: FftI, App, FftN, FftF, FftL, Dct, DctW, DctP, DctA, DctN, DctI.)
-/
import Derived.Test.YtcibajleknhklaaDoorDalc
section
namespace Go.Proofs.YtcibajleknhklaaDoor
open Go.RowKit Go.BigFrame Go.Proofs.YtcibajleknhklaaDoorW.PrintWords Go.Proofs.YtcibajleknhklaaDoorW.PrintLast Go.Proofs.YtcibajleknhklaaDoorW.PrintMore
set_option linter.unusedSimpArgs false
set_option linter.unusedVariables false
/-- The first k places hold others. -/
def upTo (L X : Nat → Int × Int) (k : Nat) : Nat → Int × Int := fun i => if i < k then L i else X i
theorem upTo_step (L X : Nat → Int × Int) (k : Nat) : updX (upTo L X k) k (L k) = upTo L X (k + 1) := by
  funext j; unfold updX upTo
  by_cases h : j = k
  · subst h; rw [if_pos rfl, if_pos (by omega)]
  · rw [if_neg h]
    by_cases h2 : j < k
    · rw [if_pos h2, if_pos (by omega)]
    · rw [if_neg h2, if_neg (by omega)]
theorem bigW_ext {g n : Nat} {X Y : Nat → Int × Int} {w : World} (h : BigW g n X w) (e : ∀ i, i < n → X i = Y i) : BigW g n Y w := by
  unfold BigW Bx at *
  rw [← ag_ext kB (n * 4) (bigF X) (bigF Y) (fun j hj => by unfold bigF; rw [e (j / 4) (by omega)])]
  exact h
set_option maxHeartbeats 2000000 in
set_option maxRecDepth 100000 in
theorem into_any (s : Nat) (hs : s < 5) (g zb pb ob tb tc cap zc : Nat) (l : Nat → Int × Int) (X : Nat → Int × Int) (w : World) (hB : BigW g (2 ^ s) X w)
    (hP : w.cell? ⟨pb, 0, none⟩ = some (.slice (some ⟨ob, 0, none⟩) (2 ^ s) (2 ^ s))) (hpl : pb < w.heap.size) (hpg : pb ≠ g)
    (hO : Bx ob 3 kI (2 ^ s) (fun j => (revF s j : Int)) w) (hog : ob ≠ g)
    (hT : 0 < s → TurnsW pb tb (2 ^ s / 2) tc g (planTurn (2 ^ s)) w)
    (hZ : ∀ k, k < 2 ^ s → w.cell? ⟨zb, k * 2, none⟩ = some (.int .i64 (l k).1) ∧ w.cell? ⟨zb, k * 2 + 1, none⟩ = some (.int .i64 (l k).2)) (hzl : zb < w.heap.size) (hzg : zb ≠ g)
    (h64 : ∀ k, k < 2 ^ s → In64 (l k).1 ∧ In64 (l k).2) (hc : 2 ^ s ≤ cap) (hcc : cap ≤ 1000000) :
    Calls Tryd.prog 22 #[.pointer (some ⟨pb, 0, none⟩), .slice (some ⟨g, 0, none⟩) (2 ^ s) cap, .slice (some ⟨zb, 0, none⟩) (2 ^ s) zc] w fun e w' => e = .returned (.bool true) ∧ Upd g w w' ∧
      BigW g (2 ^ s) (intoG cM (2 ^ s) (planTurn (2 ^ s)) (fun i => l (revF s i)) s) w' := by
  have hrv : ∀ i, i < 2 ^ s → revF s i < 2 ^ s := (fun i (hi : i < 2 ^ s) => (revF_lt ⟨s, hs⟩ ⟨i, Nat.lt_of_lt_of_le hi (Nat.pow_le_pow_right (by decide) (show s ≤ 4 by omega))⟩ hi).1)
  obtain ⟨n, hn⟩ : ∃ n : Nat, 2 ^ s = n := ⟨_, rfl⟩
  have hn1 : 0 < n := by rw [← hn]; exact Nat.pow_pos (by decide)
  have hn16 : n ≤ 16 := by rw [← hn]; exact Nat.pow_le_pow_right (by decide) (show s ≤ 4 by omega)
  rw [hn] at hB hP hO hT hZ h64 hc hrv ⊢
  have HN := Lib.hid hn
  have HRV := Lib.hid hrv
  have HB := Lib.hid hB
  have HP := Lib.hid hP
  have HO := Lib.hid hO
  have HT := Lib.hid hT
  have HZ := Lib.hid hZ
  have H64 := Lib.hid h64
  clear hrv hn hB hP hO hT hZ h64
  go_enter Tryd.func22, Tryd.ntmps22
  go_wp2_with fail
  refine (planN_any pb n n _ (by omega) _ HP.out).mono ?_
  rintro e w1 ⟨rfl, hb1⟩
  have HU1 := Lib.hid (Upd.of_below (g := g) hb1)
  have HB1 := Lib.hid (HB.out.keep hb1)
  have hol := (block_facts HO.out).2.2
  clear hb1
  have hP1 : w1.cell? ⟨pb, 0, none⟩ = some (.slice (some ⟨ob, 0, none⟩) n n) := (cell_of_block (HU1.out.block pb hpl hpg) 0).trans HP.out
  have hn0 : ((n : Int) != (n : Int)) = false := by simp
  have hpl1 : pb < w1.heap.size := Nat.lt_of_lt_of_le hpl HU1.out.size
  go_wp2_with fail
  go_loopw [29] (fun cnt wr => ∃ k : Nat, k ≤ n ∧ cnt = .int .i64 k ∧ BigW g n (upTo (fun i => l (revF s i)) X k) wr ∧ Upd g w wr) (fun cnt _ => n - (intOf cnt).toNat)
  case atStart => exact ⟨0, by omega, rfl, bigW_ext HB1.out (fun i _ => by unfold upTo; rw [if_neg (by omega)]), HU1.out⟩
  case round =>
    obtain ⟨k, hk, rfl, hb, hu⟩ := hrel
    by_cases hlt : k < n
    · have hlt' : (k : Int) < n := by omega
      have hk0 : (0 : Int) ≤ k := by omega
      have hrn := HRV.out k hlt
      have hcO := (cell_of_block (hu.block ob hol hog) k).trans (ag_cell HO.out k hlt)
      obtain ⟨r, hr⟩ : ∃ r : Nat, revF s k = r := ⟨_, rfl⟩
      simp only [kI, hr] at hcO hrn
      have hrn' : (r : Int) < n := by omega
      have hr0 : (0 : Int) ≤ r := by omega
      obtain ⟨z0, z1⟩ := HZ.out r hrn
      obtain ⟨i0, i1⟩ := H64.out r hrn
      obtain ⟨a, b, hab⟩ : ∃ a b, l r = (a, b) := ⟨_, _, rfl⟩
      rw [hab] at z0 z1 i0 i1
      simp only at z0 z1 i0 i1
      have hc0 := (cell_of_block (hu.block zb hzl hzg) (r * 2)).trans z0
      have hc1' := (cell_of_block (hu.block zb hzl hzg) (r * 2 + 1)).trans z1
      have hz2 : zb < wr.heap.size := Nat.lt_of_lt_of_le hzl hu.size
      have o0 := fun w => of_any a i0 w
      have o1 := fun w => of_any b i1 w
      unfold accAgg at o0 o1
      have HO0 := Lib.hid o0
      have HO1 := Lib.hid o1
      have HR := Lib.hid hr
      have HAB := Lib.hid hab
      have HBR := Lib.hid hb
      have HUR := Lib.hid hu
      clear z0 z1 i0 i1 o0 o1 hr hab hb hu
      go_wp2_with fail
      refine wp_region_inv [] (fun W => Below wr.heap.size wr W) (fun W W' => Below W.heap.size W W') 15 (by kernel_rfl) (by kernel_rfl) (by kernel_rfl) ((Below.refl _ _).drew) (fun W W' h h' => h.trans (h'.mono h.size)) (fun _ _ h => h.size) ?_
      simp only [List.take_succ_cons, List.take_zero, List.drop_succ_cons, List.drop_zero]
      refine wpInv_det (by kernel_rfl) (by kernel_rfl) ?_
      apply Exists.intro
      refine ⟨?_, ?_, ?_⟩
      · intro U W hC hH
        have hc1 := (bcell hC).1
        have hf1 := (bcell hC).2
        simp only [HypsU, predsOf, Region.binds, List.filterMap_cons, List.filterMap_nil, if_true, List.nil_append, List.cons_append, List.getD_cons_zero, List.getD_cons_succ] at hH
        simp only [fillPuts, Act.put, List.setIfInBounds_toArray, List.set_cons_zero, List.set_cons_succ, Nat.reduceAdd]
        go_wp2_with fail
        refine ⟨rfl, rfl, by (repeat' (first | (with_reducible exact Below.refl _ _) | (with_reducible assumption) | (with_reducible refine Below.alloc ?_ ?_ _) | (with_reducible refine below_grew ?_ ?_ _) | (with_reducible refine Below.setCell ?_ ?_ _) | (with_reducible refine Below.drew ?_) | (with_reducible refine below_drewN ?_ _) | omega | (simp; done) | (simp; omega))), ?_⟩
        conv => lhs; whnf
        try rfl
      · exact fun _ => rfl
      simp only [List.nil_append, List.cons_append, Nat.reduceAdd]
      refine wpInv_det (by kernel_rfl) (by kernel_rfl) ?_
      apply Exists.intro
      refine ⟨?_, ?_, ?_⟩
      · intro U W hC hH
        have hc1 := (bcell hC).1
        have hf1 := (bcell hC).2
        simp only [HypsU, predsOf, Region.binds, List.filterMap_cons, List.filterMap_nil, if_true, List.nil_append, List.cons_append, List.getD_cons_zero, List.getD_cons_succ] at hH
        simp only [fillPuts, Act.put, List.setIfInBounds_toArray, List.set_cons_zero, List.set_cons_succ, Nat.reduceAdd]
        go_wp2_with fail
        refine ⟨rfl, rfl, by (repeat' (first | (with_reducible exact Below.refl _ _) | (with_reducible assumption) | (with_reducible refine Below.alloc ?_ ?_ _) | (with_reducible refine below_grew ?_ ?_ _) | (with_reducible refine Below.setCell ?_ ?_ _) | (with_reducible refine Below.drew ?_) | (with_reducible refine below_drewN ?_ _) | omega | (simp; done) | (simp; omega))), ?_⟩
        conv => lhs; whnf
        try rfl
      · exact fun _ => rfl
      simp only [List.nil_append, List.cons_append, Nat.reduceAdd]
      refine wpInv_det (by kernel_rfl) (by kernel_rfl) ?_
      apply Exists.intro
      refine ⟨?_, ?_, ?_⟩
      · intro U W hC hH
        have hc1 := (bcell hC).1
        have hf1 := (bcell hC).2
        simp only [HypsU, predsOf, Region.binds, List.filterMap_cons, List.filterMap_nil, if_true, List.nil_append, List.cons_append, List.getD_cons_zero, List.getD_cons_succ] at hH
        simp only [fillPuts, Act.put, List.setIfInBounds_toArray, List.set_cons_zero, List.set_cons_succ, Nat.reduceAdd]
        go_wp2_with fail
        refine ⟨rfl, rfl, by (repeat' (first | (with_reducible exact Below.refl _ _) | (with_reducible assumption) | (with_reducible refine Below.alloc ?_ ?_ _) | (with_reducible refine below_grew ?_ ?_ _) | (with_reducible refine Below.setCell ?_ ?_ _) | (with_reducible refine Below.drew ?_) | (with_reducible refine below_drewN ?_ _) | omega | (simp; done) | (simp; omega))), ?_⟩
        conv => lhs; whnf
        try rfl
      · exact fun _ => rfl
      simp only [List.nil_append, List.cons_append, Nat.reduceAdd]
      refine wpInv_det (by kernel_rfl) (by kernel_rfl) ?_
      apply Exists.intro
      refine ⟨?_, ?_, ?_⟩
      · intro U W hC hH
        have hc1 := (bcell hC).1
        have hf1 := (bcell hC).2
        simp only [HypsU, predsOf, Region.binds, List.filterMap_cons, List.filterMap_nil, if_true, List.nil_append, List.cons_append, List.getD_cons_zero, List.getD_cons_succ] at hH
        simp only [fillPuts, Act.put, List.setIfInBounds_toArray, List.set_cons_zero, List.set_cons_succ, Nat.reduceAdd]
        go_wp2_with fail
        refine ⟨rfl, rfl, by (repeat' (first | (with_reducible exact Below.refl _ _) | (with_reducible assumption) | (with_reducible refine Below.alloc ?_ ?_ _) | (with_reducible refine below_grew ?_ ?_ _) | (with_reducible refine Below.setCell ?_ ?_ _) | (with_reducible refine Below.drew ?_) | (with_reducible refine below_drewN ?_ _) | omega | (simp; done) | (simp; omega))), ?_⟩
        conv => lhs; whnf
        try rfl
      · exact fun _ => rfl
      simp only [List.nil_append, List.cons_append, Nat.reduceAdd]
      refine wpInv_det (by kernel_rfl) (by kernel_rfl) ?_
      apply Exists.intro
      refine ⟨?_, ?_, ?_⟩
      · intro U W hC hH
        have hc1 := (bcell hC).1
        have hf1 := (bcell hC).2
        simp only [HypsU, predsOf, Region.binds, List.filterMap_cons, List.filterMap_nil, if_true, List.nil_append, List.cons_append, List.getD_cons_zero, List.getD_cons_succ] at hH
        simp only [fillPuts, Act.put, List.setIfInBounds_toArray, List.set_cons_zero, List.set_cons_succ, Nat.reduceAdd]
        go_wp2_with fail
        refine ⟨rfl, rfl, by (repeat' (first | (with_reducible exact Below.refl _ _) | (with_reducible assumption) | (with_reducible refine Below.alloc ?_ ?_ _) | (with_reducible refine below_grew ?_ ?_ _) | (with_reducible refine Below.setCell ?_ ?_ _) | (with_reducible refine Below.drew ?_) | (with_reducible refine below_drewN ?_ _) | omega | (simp; done) | (simp; omega))), ?_⟩
        conv => lhs; whnf
        try rfl
      · exact fun _ => rfl
      simp only [List.nil_append, List.cons_append, Nat.reduceAdd]
      refine wpInv_det (by kernel_rfl) (by kernel_rfl) ?_
      apply Exists.intro
      refine ⟨?_, ?_, ?_⟩
      · intro U W hC hH
        have hc1 := (bcell hC).1
        have hf1 := (bcell hC).2
        simp only [HypsU, predsOf, Region.binds, List.filterMap_cons, List.filterMap_nil, if_true, List.nil_append, List.cons_append, List.getD_cons_zero, List.getD_cons_succ] at hH
        simp only [fillPuts, Act.put, List.setIfInBounds_toArray, List.set_cons_zero, List.set_cons_succ, Nat.reduceAdd]
        go_wp2_with fail
        refine ⟨rfl, rfl, by (repeat' (first | (with_reducible exact Below.refl _ _) | (with_reducible assumption) | (with_reducible refine Below.alloc ?_ ?_ _) | (with_reducible refine below_grew ?_ ?_ _) | (with_reducible refine Below.setCell ?_ ?_ _) | (with_reducible refine Below.drew ?_) | (with_reducible refine below_drewN ?_ _) | omega | (simp; done) | (simp; omega))), ?_⟩
        conv => lhs; whnf
        try rfl
      · exact fun _ => rfl
      simp only [List.nil_append, List.cons_append, Nat.reduceAdd]
      refine wpInv_det (by kernel_rfl) (by kernel_rfl) ?_
      apply Exists.intro
      refine ⟨?_, ?_, ?_⟩
      · intro U W hC hH
        have hc1 := (bcell hC).1
        have hf1 := (bcell hC).2
        simp only [HypsU, predsOf, Region.binds, List.filterMap_cons, List.filterMap_nil, if_true, List.nil_append, List.cons_append, List.getD_cons_zero, List.getD_cons_succ] at hH
        simp only [fillPuts, Act.put, List.setIfInBounds_toArray, List.set_cons_zero, List.set_cons_succ, Nat.reduceAdd]
        go_wp2_with fail
        refine ⟨rfl, rfl, by (repeat' (first | (with_reducible exact Below.refl _ _) | (with_reducible assumption) | (with_reducible refine Below.alloc ?_ ?_ _) | (with_reducible refine below_grew ?_ ?_ _) | (with_reducible refine Below.setCell ?_ ?_ _) | (with_reducible refine Below.drew ?_) | (with_reducible refine below_drewN ?_ _) | omega | (simp; done) | (simp; omega))), ?_⟩
        conv => lhs; whnf
        try rfl
      · exact fun _ => rfl
      simp only [List.nil_append, List.cons_append, Nat.reduceAdd]
      refine wpInv_det (by kernel_rfl) (by kernel_rfl) ?_
      apply Exists.intro
      refine ⟨?_, ?_, ?_⟩
      · intro U W hC hH
        have hc1 := (bcell hC).1
        have hf1 := (bcell hC).2
        simp only [HypsU, predsOf, Region.binds, List.filterMap_cons, List.filterMap_nil, if_true, List.nil_append, List.cons_append, List.getD_cons_zero, List.getD_cons_succ] at hH
        simp only [fillPuts, Act.put, List.setIfInBounds_toArray, List.set_cons_zero, List.set_cons_succ, Nat.reduceAdd]
        go_wp2_with fail; refine (HO0.out _).mono ?_; rintro e w' ⟨rfl, hb1⟩; obtain ⟨x1, rfl⟩ := below_as_grew hb1; clear hb1; go_wp2_with fail
        refine ⟨rfl, rfl, by (repeat' (first | (with_reducible exact Below.refl _ _) | (with_reducible assumption) | (with_reducible refine Below.alloc ?_ ?_ _) | (with_reducible refine below_grew ?_ ?_ _) | (with_reducible refine Below.setCell ?_ ?_ _) | (with_reducible refine Below.drew ?_) | (with_reducible refine below_drewN ?_ _) | omega | (simp; done) | (simp; omega))), ?_⟩
        conv => lhs; whnf
        try rfl
      · exact fun _ => rfl
      simp only [List.nil_append, List.cons_append, Nat.reduceAdd]
      refine wpInv_det (by kernel_rfl) (by kernel_rfl) ?_
      apply Exists.intro
      refine ⟨?_, ?_, ?_⟩
      · intro U W hC hH
        have hc1 := (bcell hC).1
        have hf1 := (bcell hC).2
        simp only [HypsU, predsOf, Region.binds, List.filterMap_cons, List.filterMap_nil, if_true, List.nil_append, List.cons_append, List.getD_cons_zero, List.getD_cons_succ] at hH
        simp only [fillPuts, Act.put, List.setIfInBounds_toArray, List.set_cons_zero, List.set_cons_succ, Nat.reduceAdd]
        go_wp2_with fail
        refine ⟨rfl, rfl, by (repeat' (first | (with_reducible exact Below.refl _ _) | (with_reducible assumption) | (with_reducible refine Below.alloc ?_ ?_ _) | (with_reducible refine below_grew ?_ ?_ _) | (with_reducible refine Below.setCell ?_ ?_ _) | (with_reducible refine Below.drew ?_) | (with_reducible refine below_drewN ?_ _) | omega | (simp; done) | (simp; omega))), ?_⟩
        conv => lhs; whnf
        try rfl
      · exact fun _ => rfl
      simp only [List.nil_append, List.cons_append, Nat.reduceAdd]
      refine wpInv_det (by kernel_rfl) (by kernel_rfl) ?_
      apply Exists.intro
      refine ⟨?_, ?_, ?_⟩
      · intro U W hC hH
        have hc1 := (bcell hC).1
        have hf1 := (bcell hC).2
        simp only [HypsU, predsOf, Region.binds, List.filterMap_cons, List.filterMap_nil, if_true, List.nil_append, List.cons_append, List.getD_cons_zero, List.getD_cons_succ] at hH
        simp only [fillPuts, Act.put, List.setIfInBounds_toArray, List.set_cons_zero, List.set_cons_succ, Nat.reduceAdd]
        go_wp2_with fail
        refine ⟨rfl, rfl, by (repeat' (first | (with_reducible exact Below.refl _ _) | (with_reducible assumption) | (with_reducible refine Below.alloc ?_ ?_ _) | (with_reducible refine below_grew ?_ ?_ _) | (with_reducible refine Below.setCell ?_ ?_ _) | (with_reducible refine Below.drew ?_) | (with_reducible refine below_drewN ?_ _) | omega | (simp; done) | (simp; omega))), ?_⟩
        conv => lhs; whnf
        try rfl
      · exact fun _ => rfl
      simp only [List.nil_append, List.cons_append, Nat.reduceAdd]
      refine wpInv_det (by kernel_rfl) (by kernel_rfl) ?_
      apply Exists.intro
      refine ⟨?_, ?_, ?_⟩
      · intro U W hC hH
        have hc1 := (bcell hC).1
        have hf1 := (bcell hC).2
        simp only [HypsU, predsOf, Region.binds, List.filterMap_cons, List.filterMap_nil, if_true, List.nil_append, List.cons_append, List.getD_cons_zero, List.getD_cons_succ] at hH
        simp only [fillPuts, Act.put, List.setIfInBounds_toArray, List.set_cons_zero, List.set_cons_succ, Nat.reduceAdd]
        go_wp2_with fail
        refine ⟨rfl, rfl, by (repeat' (first | (with_reducible exact Below.refl _ _) | (with_reducible assumption) | (with_reducible refine Below.alloc ?_ ?_ _) | (with_reducible refine below_grew ?_ ?_ _) | (with_reducible refine Below.setCell ?_ ?_ _) | (with_reducible refine Below.drew ?_) | (with_reducible refine below_drewN ?_ _) | omega | (simp; done) | (simp; omega))), ?_⟩
        conv => lhs; whnf
        try rfl
      · exact fun _ => rfl
      simp only [List.nil_append, List.cons_append, Nat.reduceAdd]
      refine wpInv_det (by kernel_rfl) (by kernel_rfl) ?_
      apply Exists.intro
      refine ⟨?_, ?_, ?_⟩
      · intro U W hC hH
        have hc1 := (bcell hC).1
        have hf1 := (bcell hC).2
        simp only [HypsU, predsOf, Region.binds, List.filterMap_cons, List.filterMap_nil, if_true, List.nil_append, List.cons_append, List.getD_cons_zero, List.getD_cons_succ] at hH
        simp only [fillPuts, Act.put, List.setIfInBounds_toArray, List.set_cons_zero, List.set_cons_succ, Nat.reduceAdd]
        go_wp2_with fail
        refine ⟨rfl, rfl, by (repeat' (first | (with_reducible exact Below.refl _ _) | (with_reducible assumption) | (with_reducible refine Below.alloc ?_ ?_ _) | (with_reducible refine below_grew ?_ ?_ _) | (with_reducible refine Below.setCell ?_ ?_ _) | (with_reducible refine Below.drew ?_) | (with_reducible refine below_drewN ?_ _) | omega | (simp; done) | (simp; omega))), ?_⟩
        conv => lhs; whnf
        try rfl
      · exact fun _ => rfl
      simp only [List.nil_append, List.cons_append, Nat.reduceAdd]
      refine wpInv_det (by kernel_rfl) (by kernel_rfl) ?_
      apply Exists.intro
      refine ⟨?_, ?_, ?_⟩
      · intro U W hC hH
        have hc1 := (bcell hC).1
        have hf1 := (bcell hC).2
        simp only [HypsU, predsOf, Region.binds, List.filterMap_cons, List.filterMap_nil, if_true, List.nil_append, List.cons_append, List.getD_cons_zero, List.getD_cons_succ] at hH
        simp only [fillPuts, Act.put, List.setIfInBounds_toArray, List.set_cons_zero, List.set_cons_succ, Nat.reduceAdd]
        go_wp2_with fail
        refine ⟨rfl, rfl, by (repeat' (first | (with_reducible exact Below.refl _ _) | (with_reducible assumption) | (with_reducible refine Below.alloc ?_ ?_ _) | (with_reducible refine below_grew ?_ ?_ _) | (with_reducible refine Below.setCell ?_ ?_ _) | (with_reducible refine Below.drew ?_) | (with_reducible refine below_drewN ?_ _) | omega | (simp; done) | (simp; omega))), ?_⟩
        conv => lhs; whnf
        try rfl
      · exact fun _ => rfl
      simp only [List.nil_append, List.cons_append, Nat.reduceAdd]
      refine wpInv_det (by kernel_rfl) (by kernel_rfl) ?_
      apply Exists.intro
      refine ⟨?_, ?_, ?_⟩
      · intro U W hC hH
        have hc1 := (bcell hC).1
        have hf1 := (bcell hC).2
        simp only [HypsU, predsOf, Region.binds, List.filterMap_cons, List.filterMap_nil, if_true, List.nil_append, List.cons_append, List.getD_cons_zero, List.getD_cons_succ] at hH
        simp only [fillPuts, Act.put, List.setIfInBounds_toArray, List.set_cons_zero, List.set_cons_succ, Nat.reduceAdd]
        go_wp2_with fail; refine (HO1.out _).mono ?_; rintro e w' ⟨rfl, hb1⟩; obtain ⟨x1, rfl⟩ := below_as_grew hb1; clear hb1; go_wp2_with fail
        refine ⟨rfl, rfl, by (repeat' (first | (with_reducible exact Below.refl _ _) | (with_reducible assumption) | (with_reducible refine Below.alloc ?_ ?_ _) | (with_reducible refine below_grew ?_ ?_ _) | (with_reducible refine Below.setCell ?_ ?_ _) | (with_reducible refine Below.drew ?_) | (with_reducible refine below_drewN ?_ _) | omega | (simp; done) | (simp; omega))), ?_⟩
        conv => lhs; whnf
        try rfl
      · exact fun _ => rfl
      simp only [List.nil_append, List.cons_append, Nat.reduceAdd]
      refine wpInv_det (by kernel_rfl) (by kernel_rfl) ?_
      apply Exists.intro
      refine ⟨?_, ?_, ?_⟩
      · intro U W hC hH
        have hc1 := (bcell hC).1
        have hf1 := (bcell hC).2
        simp only [HypsU, predsOf, Region.binds, List.filterMap_cons, List.filterMap_nil, if_true, List.nil_append, List.cons_append, List.getD_cons_zero, List.getD_cons_succ] at hH
        simp only [fillPuts, Act.put, List.setIfInBounds_toArray, List.set_cons_zero, List.set_cons_succ, Nat.reduceAdd]
        go_wp2_with fail
        refine ⟨rfl, rfl, by (repeat' (first | (with_reducible exact Below.refl _ _) | (with_reducible assumption) | (with_reducible refine Below.alloc ?_ ?_ _) | (with_reducible refine below_grew ?_ ?_ _) | (with_reducible refine Below.setCell ?_ ?_ _) | (with_reducible refine Below.drew ?_) | (with_reducible refine below_drewN ?_ _) | omega | (simp; done) | (simp; omega))), ?_⟩
        conv => lhs; whnf
        try rfl
      · exact fun _ => rfl
      simp only [List.nil_append, List.cons_append, Nat.reduceAdd]
      simp only [List.nil_append, List.cons_append, Nat.reduceAdd, fillPuts, Act.put, List.setIfInBounds_toArray, List.set_cons_zero, List.set_cons_succ]
      rintro U W hC ⟨h0, h1, h2, h3, h4, h5, h6, h7, h8, h9, h10, h11, h12, h13, h14, -⟩ -
      simp only [h0, h1, h2, h3, h4, h5, h6, h7, h8, h9, h10, h11, h12, h13, h14]
      clear h0 h1 h2 h3 h4 h5 h6 h7 h8 h9 h10 h11 h12 h13 h14 hcO hc0 hc1'
      have hX := HBR.out.keep hC
      obtain ⟨c0, c1, c2, c3⟩ := bigW_cells hX k hlt
      have f0 := (block_facts hX).2.1 (k * 4)
      have f1 := (block_facts hX).2.1 (k * 4 + 1)
      have f2 := (block_facts hX).2.1 (k * 4 + 2)
      have f3 := (block_facts hX).2.1 (k * 4 + 3)
      have q1 := bigW_store hX k hlt (a, b)
      have HQ := Lib.hid q1
      have HU3 := Lib.hid (HUR.out.trans (Upd.of_below hC))
      have hgl4 := (block_facts hX).2.2
      clear q1 hX hC
      go_wp2_with fail
      refine ⟨⟨k + 1, by omega, by go_num, ?_, HU3.out.trans (Upd.of_only only_four)⟩, by simp only [intOf]; omega⟩
      have e := upTo_step (fun i => l (revF s i)) X k
      simp only [HR.out, HAB.out] at e
      rw [← e]
      exact HQ.out
    · obtain rfl : n = k := by omega
      have HBR := Lib.hid (bigW_ext (Y := intoG cM n (planTurn n) (fun i => l (revF s i)) 0) hb (fun i hi => by unfold upTo; rw [if_pos hi]; rfl))
      have HUR := Lib.hid hu
      clear hb hu
      go_wp2_with fail
      go_loopw [10] (fun cnt W => ∃ t : Nat, t ≤ s ∧ cnt = .int .i64 ((2 ^ (t + 1) : Nat) : Int) ∧ BigW g n (intoG cM n (planTurn n) (fun i => l (revF s i)) t) W ∧ Upd g w W) (fun cnt _ => 2 * n - (intOf cnt).toNat)
      case atStart => exact ⟨0, by omega, by simp, HBR.out, HUR.out⟩
      case round =>
        obtain ⟨t, ht, rfl, hb, hu⟩ := hrel
        obtain ⟨h, hh⟩ : ∃ h : Nat, 2 ^ t = h := ⟨_, rfl⟩
        have hh0 : 0 < h := by rw [← hh]; exact Nat.pow_pos (by decide)
        have hszh : 2 ^ (t + 1) = h + h := by rw [Nat.pow_succ, hh]; omega
        obtain ⟨sz, hsz⟩ : ∃ sz : Nat, 2 ^ (t + 1) = sz := ⟨_, rfl⟩
        rw [hsz] at hszh ⊢
        by_cases hle : sz ≤ n
        · have hle' : (sz : Int) ≤ n := by omega
          have hts : t + 1 ≤ s := by rw [← hsz, ← HN.out] at hle; exact (Nat.pow_le_pow_iff_right (by decide)).1 hle
          obtain ⟨q, hq⟩ : ∃ q : Nat, n / sz = q := ⟨_, rfl⟩
          have hqn : q * sz = n := by
            rw [← hq]
            refine Nat.div_mul_cancel ?_
            rw [← hsz, ← HN.out]
            exact Nat.pow_dvd_pow 2 hts
          have hq0 : 0 < q := by rcases Nat.eq_zero_or_pos q with e | e; · subst e; omega
                                 · exact e
          have hq16 : q ≤ 16 := by rw [← hq]; exact Nat.le_trans (Nat.div_le_self _ _) hn16
          have HQN := Lib.hid hqn
          have HQ := Lib.hid hq
          have HS2 := Lib.hid hszh
          have HHH := Lib.hid hh
          have HSZ := Lib.hid hsz
          have HBT := Lib.hid hb
          have HUT := Lib.hid hu
          have hmul : ((sz : Int) * 2 + 9223372036854775808) % 18446744073709551616 - 9223372036854775808 = sz * 2 := by omega
          clear hqn hq hszh hsz hh hb hu
          go_wp2_with fail
          go_loopw [11] (fun cnt W => ∃ m : Nat, m ≤ q ∧ cnt = .int .i64 ((m * sz : Nat) : Int) ∧ BigW g n (stageG cM (planTurn n) q h (intoG cM n (planTurn n) (fun i => l (revF s i)) t) m) W ∧ Upd g w W) (fun cnt _ => n - (intOf cnt).toNat)
          case atStart => exact ⟨0, by omega, by simp, HBT.out, HUT.out⟩
          case round =>
            obtain ⟨m, hm, rfl, hb, hu⟩ := hrel
            obtain ⟨f, hf⟩ : ∃ f : Nat, m * sz = f := ⟨_, rfl⟩
            rw [hf]
            have HBM := Lib.hid hb
            have HUM := Lib.hid hu
            clear hb hu
            by_cases hfn : f < n
            · have hfn' : (f : Int) < n := by omega
              have hf0 : (0 : Int) ≤ f := by omega
              have hmq : m < q := by
                rcases Nat.lt_or_ge m q with e | e
                · exact e
                · have := Nat.mul_le_mul_right sz e
                  rw [hf, HQN.out] at this
                  omega
              have hfs : f + sz ≤ n := by
                have := Nat.mul_le_mul_right sz (show m + 1 ≤ q from hmq)
                rw [Nat.add_mul, hf, HQN.out] at this
                omega
              have HF := Lib.hid hf
              clear hf
              have hadd : ((f : Int) + sz + 9223372036854775808) % 18446744073709551616 - 9223372036854775808 = f + sz := by omega
              have hsz0 : ((sz : Int) == 0) = false := beq_eq_false_iff_ne.mpr (by have := HS2.out; omega)
              have hquo : (n : Int) / (sz : Int) = (q : Int) := by rw [← HQ.out]; simp
              have hsz1 : ¬ sz = 0 := by have := HS2.out; omega
              have hwq : wrap64 ((n : Int) / (sz : Int)) = (q : Int) := by rw [hquo]; unfold wrap64; omega
              clear hquo
              have hfc : (f : Int) + sz ≤ cap := by omega
              have hfle : (f : Int) ≤ f + sz := by omega
              have hgl := (block_facts HBM.out).2.2
              go_upto_region 15 with fail
              refine wp_region_inv [] (fun W => Below wr.heap.size wr W) (fun W W' => Below W.heap.size W W') 10 (by kernel_rfl) (by kernel_rfl) (by kernel_rfl) ((Below.refl _ _).drew) (fun W W' h h' => h.trans (h'.mono h.size)) (fun _ _ h => h.size) ?_
              simp only [List.take_succ_cons, List.take_zero, List.drop_succ_cons, List.drop_zero]
              refine wpInv_det (by kernel_rfl) (by kernel_rfl) ?_
              apply Exists.intro
              refine ⟨?_, ?_, ?_⟩
              · intro U W hC hH
                have hc1 := (bcell hC).1
                have hf1 := (bcell hC).2
                simp only [HypsU, predsOf, Region.binds, List.filterMap_cons, List.filterMap_nil, if_true, List.nil_append, List.cons_append, List.getD_cons_zero, List.getD_cons_succ] at hH
                simp only [fillPuts, Act.put, List.setIfInBounds_toArray, List.set_cons_zero, List.set_cons_succ, Nat.reduceAdd]
                go_wp2_with fail
                refine ⟨rfl, rfl, by (repeat' (first | (with_reducible exact Below.refl _ _) | (with_reducible assumption) | (with_reducible refine Below.alloc ?_ ?_ _) | (with_reducible refine below_grew ?_ ?_ _) | (with_reducible refine Below.setCell ?_ ?_ _) | (with_reducible refine Below.drew ?_) | (with_reducible refine below_drewN ?_ _) | omega | (simp; done) | (simp; omega))), ?_⟩
                conv => lhs; whnf
                try rfl
              · exact fun _ => rfl
              simp only [List.nil_append, List.cons_append, Nat.reduceAdd]
              refine wpInv_det (by kernel_rfl) (by kernel_rfl) ?_
              apply Exists.intro
              refine ⟨?_, ?_, ?_⟩
              · intro U W hC hH
                have hc1 := (bcell hC).1
                have hf1 := (bcell hC).2
                simp only [HypsU, predsOf, Region.binds, List.filterMap_cons, List.filterMap_nil, if_true, List.nil_append, List.cons_append, List.getD_cons_zero, List.getD_cons_succ] at hH
                simp only [fillPuts, Act.put, List.setIfInBounds_toArray, List.set_cons_zero, List.set_cons_succ, Nat.reduceAdd]
                go_wp2_with fail
                refine ⟨rfl, rfl, by (repeat' (first | (with_reducible exact Below.refl _ _) | (with_reducible assumption) | (with_reducible refine Below.alloc ?_ ?_ _) | (with_reducible refine below_grew ?_ ?_ _) | (with_reducible refine Below.setCell ?_ ?_ _) | (with_reducible refine Below.drew ?_) | (with_reducible refine below_drewN ?_ _) | omega | (simp; done) | (simp; omega))), ?_⟩
                conv => lhs; whnf
                try rfl
              · exact fun _ => rfl
              simp only [List.nil_append, List.cons_append, Nat.reduceAdd]
              refine wpInv_det (by kernel_rfl) (by kernel_rfl) ?_
              apply Exists.intro
              refine ⟨?_, ?_, ?_⟩
              · intro U W hC hH
                have hc1 := (bcell hC).1
                have hf1 := (bcell hC).2
                simp only [HypsU, predsOf, Region.binds, List.filterMap_cons, List.filterMap_nil, if_true, List.nil_append, List.cons_append, List.getD_cons_zero, List.getD_cons_succ] at hH
                simp only [fillPuts, Act.put, List.setIfInBounds_toArray, List.set_cons_zero, List.set_cons_succ, Nat.reduceAdd]
                go_wp2_with fail
                refine ⟨rfl, rfl, by (repeat' (first | (with_reducible exact Below.refl _ _) | (with_reducible assumption) | (with_reducible refine Below.alloc ?_ ?_ _) | (with_reducible refine below_grew ?_ ?_ _) | (with_reducible refine Below.setCell ?_ ?_ _) | (with_reducible refine Below.drew ?_) | (with_reducible refine below_drewN ?_ _) | omega | (simp; done) | (simp; omega))), ?_⟩
                conv => lhs; whnf
                try rfl
              · exact fun _ => rfl
              simp only [List.nil_append, List.cons_append, Nat.reduceAdd]
              refine wpInv_det (by kernel_rfl) (by kernel_rfl) ?_
              apply Exists.intro
              refine ⟨?_, ?_, ?_⟩
              · intro U W hC hH
                have hc1 := (bcell hC).1
                have hf1 := (bcell hC).2
                simp only [HypsU, predsOf, Region.binds, List.filterMap_cons, List.filterMap_nil, if_true, List.nil_append, List.cons_append, List.getD_cons_zero, List.getD_cons_succ] at hH
                simp only [fillPuts, Act.put, List.setIfInBounds_toArray, List.set_cons_zero, List.set_cons_succ, Nat.reduceAdd]
                go_wp2_with fail
                refine ⟨rfl, rfl, by (repeat' (first | (with_reducible exact Below.refl _ _) | (with_reducible assumption) | (with_reducible refine Below.alloc ?_ ?_ _) | (with_reducible refine below_grew ?_ ?_ _) | (with_reducible refine Below.setCell ?_ ?_ _) | (with_reducible refine Below.drew ?_) | (with_reducible refine below_drewN ?_ _) | omega | (simp; done) | (simp; omega))), ?_⟩
                conv => lhs; whnf
                try rfl
              · exact fun _ => rfl
              simp only [List.nil_append, List.cons_append, Nat.reduceAdd]
              refine wpInv_det (by kernel_rfl) (by kernel_rfl) ?_
              apply Exists.intro
              refine ⟨?_, ?_, ?_⟩
              · intro U W hC hH
                have hc1 := (bcell hC).1
                have hf1 := (bcell hC).2
                simp only [HypsU, predsOf, Region.binds, List.filterMap_cons, List.filterMap_nil, if_true, List.nil_append, List.cons_append, List.getD_cons_zero, List.getD_cons_succ] at hH
                simp only [fillPuts, Act.put, List.setIfInBounds_toArray, List.set_cons_zero, List.set_cons_succ, Nat.reduceAdd]
                go_wp2_with fail
                refine ⟨rfl, rfl, by (repeat' (first | (with_reducible exact Below.refl _ _) | (with_reducible assumption) | (with_reducible refine Below.alloc ?_ ?_ _) | (with_reducible refine below_grew ?_ ?_ _) | (with_reducible refine Below.setCell ?_ ?_ _) | (with_reducible refine Below.drew ?_) | (with_reducible refine below_drewN ?_ _) | omega | (simp; done) | (simp; omega))), ?_⟩
                conv => lhs; whnf
                try rfl
              · exact fun _ => rfl
              simp only [List.nil_append, List.cons_append, Nat.reduceAdd]
              refine wpInv_det (by kernel_rfl) (by kernel_rfl) ?_
              apply Exists.intro
              refine ⟨?_, ?_, ?_⟩
              · intro U W hC hH
                have hc1 := (bcell hC).1
                have hf1 := (bcell hC).2
                simp only [HypsU, predsOf, Region.binds, List.filterMap_cons, List.filterMap_nil, if_true, List.nil_append, List.cons_append, List.getD_cons_zero, List.getD_cons_succ] at hH
                simp only [fillPuts, Act.put, List.setIfInBounds_toArray, List.set_cons_zero, List.set_cons_succ, Nat.reduceAdd]
                go_wp2_with fail
                refine ⟨rfl, rfl, by (repeat' (first | (with_reducible exact Below.refl _ _) | (with_reducible assumption) | (with_reducible refine Below.alloc ?_ ?_ _) | (with_reducible refine below_grew ?_ ?_ _) | (with_reducible refine Below.setCell ?_ ?_ _) | (with_reducible refine Below.drew ?_) | (with_reducible refine below_drewN ?_ _) | omega | (simp; done) | (simp; omega))), ?_⟩
                conv => lhs; whnf
                try rfl
              · exact fun _ => rfl
              simp only [List.nil_append, List.cons_append, Nat.reduceAdd]
              refine wpInv_det (by kernel_rfl) (by kernel_rfl) ?_
              apply Exists.intro
              refine ⟨?_, ?_, ?_⟩
              · intro U W hC hH
                have hc1 := (bcell hC).1
                have hf1 := (bcell hC).2
                simp only [HypsU, predsOf, Region.binds, List.filterMap_cons, List.filterMap_nil, if_true, List.nil_append, List.cons_append, List.getD_cons_zero, List.getD_cons_succ] at hH
                simp only [fillPuts, Act.put, List.setIfInBounds_toArray, List.set_cons_zero, List.set_cons_succ, Nat.reduceAdd]
                go_wp2_with fail
                refine ⟨rfl, rfl, by (repeat' (first | (with_reducible exact Below.refl _ _) | (with_reducible assumption) | (with_reducible refine Below.alloc ?_ ?_ _) | (with_reducible refine below_grew ?_ ?_ _) | (with_reducible refine Below.setCell ?_ ?_ _) | (with_reducible refine Below.drew ?_) | (with_reducible refine below_drewN ?_ _) | omega | (simp; done) | (simp; omega))), ?_⟩
                conv => lhs; whnf
                try rfl
              · exact fun _ => rfl
              simp only [List.nil_append, List.cons_append, Nat.reduceAdd]
              refine wpInv_det (by kernel_rfl) (by kernel_rfl) ?_
              apply Exists.intro
              refine ⟨?_, ?_, ?_⟩
              · intro U W hC hH
                have hc1 := (bcell hC).1
                have hf1 := (bcell hC).2
                simp only [HypsU, predsOf, Region.binds, List.filterMap_cons, List.filterMap_nil, if_true, List.nil_append, List.cons_append, List.getD_cons_zero, List.getD_cons_succ] at hH
                simp only [fillPuts, Act.put, List.setIfInBounds_toArray, List.set_cons_zero, List.set_cons_succ, Nat.reduceAdd]
                go_wp2_with fail
                refine ⟨rfl, rfl, by (repeat' (first | (with_reducible exact Below.refl _ _) | (with_reducible assumption) | (with_reducible refine Below.alloc ?_ ?_ _) | (with_reducible refine below_grew ?_ ?_ _) | (with_reducible refine Below.setCell ?_ ?_ _) | (with_reducible refine Below.drew ?_) | (with_reducible refine below_drewN ?_ _) | omega | (simp; done) | (simp; omega))), ?_⟩
                conv => lhs; whnf
                try rfl
              · exact fun _ => rfl
              simp only [List.nil_append, List.cons_append, Nat.reduceAdd]
              refine wpInv_det (by kernel_rfl) (by kernel_rfl) ?_
              apply Exists.intro
              refine ⟨?_, ?_, ?_⟩
              · intro U W hC hH
                have hc1 := (bcell hC).1
                have hf1 := (bcell hC).2
                simp only [HypsU, predsOf, Region.binds, List.filterMap_cons, List.filterMap_nil, if_true, List.nil_append, List.cons_append, List.getD_cons_zero, List.getD_cons_succ] at hH
                simp only [fillPuts, Act.put, List.setIfInBounds_toArray, List.set_cons_zero, List.set_cons_succ, Nat.reduceAdd]
                go_wp2_with fail
                refine ⟨rfl, rfl, by (repeat' (first | (with_reducible exact Below.refl _ _) | (with_reducible assumption) | (with_reducible refine Below.alloc ?_ ?_ _) | (with_reducible refine below_grew ?_ ?_ _) | (with_reducible refine Below.setCell ?_ ?_ _) | (with_reducible refine Below.drew ?_) | (with_reducible refine below_drewN ?_ _) | omega | (simp; done) | (simp; omega))), ?_⟩
                conv => lhs; whnf
                try rfl
              · exact fun _ => rfl
              simp only [List.nil_append, List.cons_append, Nat.reduceAdd]
              refine wpInv_det (by kernel_rfl) (by kernel_rfl) ?_
              apply Exists.intro
              refine ⟨?_, ?_, ?_⟩
              · intro U W hC hH
                have hc1 := (bcell hC).1
                have hf1 := (bcell hC).2
                simp only [HypsU, predsOf, Region.binds, List.filterMap_cons, List.filterMap_nil, if_true, List.nil_append, List.cons_append, List.getD_cons_zero, List.getD_cons_succ] at hH
                simp only [fillPuts, Act.put, List.setIfInBounds_toArray, List.set_cons_zero, List.set_cons_succ, Nat.reduceAdd]
                go_wp2_with fail
                refine ⟨rfl, rfl, by (repeat' (first | (with_reducible exact Below.refl _ _) | (with_reducible assumption) | (with_reducible refine Below.alloc ?_ ?_ _) | (with_reducible refine below_grew ?_ ?_ _) | (with_reducible refine Below.setCell ?_ ?_ _) | (with_reducible refine Below.drew ?_) | (with_reducible refine below_drewN ?_ _) | omega | (simp; done) | (simp; omega))), ?_⟩
                conv => lhs; whnf
                try rfl
              · exact fun _ => rfl
              simp only [List.nil_append, List.cons_append, Nat.reduceAdd]
              simp only [List.nil_append, List.cons_append, Nat.reduceAdd, fillPuts, Act.put, List.setIfInBounds_toArray, List.set_cons_zero, List.set_cons_succ]
              rintro U W hC ⟨h0, h1, h2, h3, h4, h5, h6, h7, h8, h9, -⟩ -
              simp only [h0, h1, h2, h3, h4, h5, h6, h7, h8, h9]
              clear h0 h1 h2 h3 h4 h5 h6 h7 h8 h9
              have hUW := HUM.out.trans (Upd.of_below hC)
              have HUW := Lib.hid hUW
              have hs0 : 0 < s := by omega
              have hTW := (HT.out hs0).upd hUW
              have hXW := HBM.out.keep hC
              have hfh : f = m * (h + h) := by rw [← HS2.out]; exact HF.out.symm
              have hqh : (h + h) * q = n := by rw [← HS2.out, Nat.mul_comm]; exact HQN.out
              have hk : ∀ k, k < h → k * q < n / 2 := fun k hk => by
                have h1 := Nat.mul_lt_mul_of_pos_right hk hq0
                rw [Nat.add_mul] at hqh
                omega
              have h64 : ∀ k, k < n / 2 → In64 (planTurn n k).1 ∧ In64 (planTurn n k).2 := fun k _ => by
                obtain ⟨a1, a2, a3, a4⟩ := turnF_small ((k * 256 / n : Nat) : Int)
                unfold In64 planTurn
                omega
              have hj := join_any (planTurn n) g n f h q (n / 2) pb tb tc (cap - f) _ W hXW hTW (by have := HS2.out; omega) hn16 hk h64 hh0 hq16
              rw [← HS2.out] at hj
              have HJ := Lib.hid hj
              clear hj hXW hTW hUW hC hfh hqh hk h64
              go_wp2_with (go_at_call 64; refine HJ.out.mono ?_; rintro e w3 ⟨rfl, hu3, hb3⟩; have HU3 := Lib.hid hu3; have HB3 := Lib.hid hb3; clear hu3 hb3)
              refine ⟨⟨m + 1, hmq, ?_, ?_, HUW.out.trans HU3.out⟩, by simp only [intOf]; omega⟩
              · rw [Nat.add_mul, HF.out]; simp
              · show BigW g n (joinG cM (planTurn n) q (m * (h + h)) h _) w3
                rw [← HS2.out, HF.out]
                exact HB3.out
            · have e : n = f := by
                have := Nat.mul_le_mul_right sz hm
                rw [hf, HQN.out] at this
                omega
              subst e
              have hszp : 0 < sz := by have := HS2.out; omega
              have hfn' : ¬ (n : Int) < n := by omega
              have hmq : m = q := Nat.eq_of_mul_eq_mul_right hszp (hf.trans HQN.out.symm)
              subst hmq
              clear hf
              go_wp2_with fail
              refine ⟨⟨t + 1, hts, ?_, ?_, HUM.out⟩, by simp only [intOf]; omega⟩
              · rw [Nat.pow_succ, HSZ.out]; simp
              · show BigW g n (stageG cM (planTurn n) (n / 2 ^ (t + 1)) (2 ^ t) _ (n / 2 ^ (t + 1))) wr
                rw [HSZ.out, HHH.out, HQ.out]
                exact HBM.out
        · have hle' : ¬ (sz : Int) ≤ n := by omega
          have hts : t = s := by
            rcases Nat.lt_or_ge t s with e | e
            · have := Nat.pow_le_pow_right (n := 2) (by decide) (show t + 1 ≤ s from e)
              rw [hsz, HN.out] at this
              omega
            · omega
          subst hts
          have HBT := Lib.hid hb
          have HUT := Lib.hid hu
          clear hb hu hsz hszh hh
          go_wp2_with fail
          go_ret
          exact ⟨rfl, HUT.out, HBT.out⟩
end Go.Proofs.YtcibajleknhklaaDoor
end

section
namespace Go.Proofs.YtcibajleknhklaaDoor
open Go.RowKit Go.BigFrame Go.Proofs.YtcibajleknhklaaDoorW.PrintWords Go.Proofs.YtcibajleknhklaaDoorW.PrintLast Go.Proofs.YtcibajleknhklaaDoorW.PrintMore
set_option linter.unusedSimpArgs false
set_option linter.unusedVariables false
/-- Blocks below B stay; of the others one alone may be written, and rows that were begun as tn tells stay rows. -/
structure AT (B : Nat) (e : TypeId) (sz : Nat) (g : Option Nat) (tn : Nat → List Value) (m : Nat) (W W' : World) : Prop where
  below : Below B W W'
  grow : W.grownBy W' g
  keep : ∀ v j, j ≤ m → W.ownsRow B e sz v j (tn j) → W'.ownsRow B e sz v j (tn j)
theorem AT.of_below {B e sz g tn m} {W W' : World} (h : Below W.heap.size W W') (hB : B ≤ W.heap.size) : AT B e sz g tn m W W' :=
  ⟨h.mono hB, ⟨h.os, h.tape, h.output, h.size, fun k hk _ => h.block k hk⟩, fun _ _ _ ho => ownsRow_below ho h⟩
theorem AT.trans {B e sz g tn m} {W W1 W2 : World} (h : AT B e sz g tn m W W1) (k : AT B e sz g tn m W1 W2) : AT B e sz g tn m W W2 :=
  ⟨h.below.trans k.below, ⟨k.grow.os.trans h.grow.os, k.grow.tape.trans h.grow.tape, k.grow.output.trans h.grow.output, Nat.le_trans h.grow.size k.grow.size,
    fun i hi hg => (k.grow.block i (Nat.lt_of_lt_of_le hi h.grow.size) hg).trans (h.grow.block i hi hg)⟩, fun v j hj ho => k.keep v j hj (h.keep v j hj ho)⟩
theorem append_at {P : Program} {ops : Array Oper} {rest : List Oper} {o : Oper} {a : Act} {Q : Exit → Act → World → Prop} {w : World} (hgd : o.guard = none) (s x : Operand) (t : TypeId)
    (ho : o.op = .call { callee := .builtin .append, args := #[s, x], argTypes := #[t, t] })
    (B : Nat) (e e' : TypeId) (z : Value) (size bytes : Nat) (ht : P.underlying t = some (.slice e)) (hi : (P.info? e).map (fun i => (i.zero, i.size, i.bytes)) = some (some z, size, bytes))
    (hzs : z.cells.size = size) (hsz : 0 < size)
    (v : Value) (k : Nat) (tn : Nat → List Value) (hs : a.eval s = v) (hown : w.ownsRow B e size v k (tn k))
    (q : Nat) (news : List Value) (hx : a.eval x = .slice (some ⟨q, 0, none⟩) 1 1) (hq : w.heap[q]? = some (.cells news.toArray e' (0, 0))) (hl : news.length = size) (h1 : ∀ u ∈ news, u.oneCell' = true)
    (h63 : k + 1 ≤ maxLen) (hbytes : (k + 1) * bytes ≤ 140737488355328) (hbase : B ≤ w.heap.size) (htn : tn (k + 1) = tn k ++ news)
    (h : ∀ g' c' w', w'.ownsRow B e size (.slice (some ⟨g', 0, none⟩) (k + 1) c') (k + 1) (tn (k + 1)) → AT B e size v.ownBlock tn (k + 1) w w' → wpList P ops Q rest (a.put o.dst (.slice (some ⟨g', 0, none⟩) (k + 1) c')) w') :
    wpList P ops Q (o :: rest) a w := by
  obtain ⟨i0, hi0, hz0, hz1, hz2⟩ := info_parts hi
  have hcell : ∀ j u, news[j]? = some u → w.cell? ((⟨q, 0, none⟩ : Addr).add j) = some u := by
    intro j u hj
    have : (⟨q, 0, none⟩ : Addr).add j = ⟨q, j, none⟩ := by unfold Addr.add; split <;> simp_all
    rw [this]
    unfold World.cell?
    rw [hq]
    simpa using hj
  have hgrow : ∀ v' w', w'.ownsRow w.heap.size e size v' (k + 1) (tn k ++ news) → w.grownBy w' none → wpList P ops Q rest (a.put o.dst v') w' := by
    intro v' w' h2 h3
    have hb : Below w.heap.size w w' := ⟨h3.os, h3.tape, h3.output, h3.size, fun i hi => h3.block i hi (by simp)⟩
    obtain ⟨g', c', rfl, hg1, hg2⟩ := own_form h2 (by omega)
    refine h g' c' w' ?_ (AT.of_below hb hbase)
    rw [htn]
    exact ⟨h2.1, h2.2.imp id fun ⟨g, cap, cur, a1, a2, a3⟩ => ⟨g, cap, cur, a1, Nat.le_trans hbase a2, a3⟩⟩
  rcases hown.2 with ⟨rfl, rfl⟩ | ⟨g, cap, cur, rfl, hbg, hg, hnc, hcm, hcs, htake⟩
  · refine wpList_append_grows w hgd s x t ho e i0 z size bytes ht hi0 hz0 hz1 hz2 hzs hsz none 0 0 (tn 0) hs (fun _ => ⟨rfl, rfl⟩) hown.1 (fun b hb => by cases hb) ⟨q, 0, none⟩ 1 1 news hx (by omega) hcell h1 (by omega) h63 hbytes hgrow
  · have hcl : ∀ j u, (tn k)[j]? = some u → w.cell? ⟨g, 0 + j, none⟩ = some u := fun j u hj => by
      have := hown.cells (g := g) rfl j u hj
      rw [Addr.add_lit] at this
      exact this
    have hfit : k + 1 ≤ cap → 0 + k * size + news.length ≤ cur.size := fun hr => by
      rw [hl, hcs]
      have := Nat.mul_le_mul_right size hr
      rw [Nat.add_mul] at this
      omega
    refine wpList_append_arg w hgd s x t ho e i0 z size bytes ht hi0 hz0 hz1 hz2 hzs hsz g 0 k cap (tn k) hs hown.1 hcl ⟨q, 0, none⟩ 1 1 news hx (by omega) hcell h1 (fun hr j hj => ?_) h63 hbytes (fun hr => ?_) (fun _ => hgrow)
    · have hf := block_facts hg
      have hlt : 0 + k * size + j < cur.size := by have := hfit hr; omega
      rw [hf.1, hf.2.1]
      exact ⟨by rw [Array.getElem?_eq_getElem hlt]; rfl, rfl⟩
    · obtain ⟨cur', e1, e2, e3⟩ := setCells_row news (0 + k * size) w _ hg (hfit hr)
      have ho1 := only_setCells w g (0 + k * size) news
      have hlow := ho1.below (Below.refl B w) hbg
      have hlen : (tn k ++ news).length = (k + 1) * size := by rw [List.length_append, hown.1, hl, Nat.add_mul]; omega
      have htk : cur'.toList.take ((k + 1) * size) = tn k ++ news := by
        rw [e3, Nat.zero_add, htake, ← hlen]
        exact List.take_left
      refine h g cap _ ?_ ⟨hlow, ⟨ho1.os, ho1.tape, ho1.output, Nat.le_of_eq ho1.size.symm, fun i hi hne => ho1.block i (fun e => hne (by rw [e]; rfl))⟩, ?_⟩
      · exact ⟨by rw [htn]; exact hlen, .inr ⟨g, cap, cur', rfl, hbg, e1, hr, hcm, e2.trans hcs, by rw [htn]; exact htk⟩⟩
      · rintro u j hj ⟨b1, b2 | ⟨g0, cap0, cur0, b2, b3, b4, b5, b6, b7, b8⟩⟩
        · exact ⟨b1, .inl b2⟩
        · by_cases hgg : g0 = g
          · subst hgg
            rw [hg] at b4
            cases b4
            refine ⟨b1, .inr ⟨g0, cap0, cur', b2, b3, e1, b5, b6, e2.trans b7, ?_⟩⟩
            by_cases hjk : j ≤ k
            · have hjs : j * size ≤ k * size := Nat.mul_le_mul_right _ hjk
              have h5 : (tn k).take (j * size) = tn j := by rw [← htake, List.take_take, Nat.min_eq_left hjs]; exact b8
              rw [e3, Nat.zero_add, htake, List.append_assoc, List.take_append_of_le_length (by rw [hown.1]; exact hjs)]
              exact h5
            · obtain rfl : j = k + 1 := by omega
              rw [htk, htn]
          · exact ⟨b1, .inr ⟨g0, cap0, cur0, b2, b3, (ho1.block g0 hgg).trans b4, b5, b6, b7, b8⟩⟩
end Go.Proofs.YtcibajleknhklaaDoor
end

section
namespace Go.Proofs.YtcibajleknhklaaDoor
open Go.RowKit Go.BigFrame Go.Proofs.YtcibajleknhklaaDoorW.PrintWords Go.Proofs.YtcibajleknhklaaDoorW.PrintLast Go.Proofs.YtcibajleknhklaaDoorW.PrintMore
open PFftOrders RFftOrders
set_option linter.unusedSimpArgs false
set_option linter.unusedVariables false
def pairCells (p : Int × Int) : List Value := [.int .i64 p.1, .int .i64 p.2]
def turnsTo (n k : Nat) : List Value := ((List.range k).map fun i : Nat => turnF ((i : Int) * 256 / (n : Int))).flatMap pairCells
theorem own_only {w w' : World} {base p : Nat} {e : TypeId} {size n : Nat} {v : Value} {xs : List Value} (h : w.ownsRow base e size v n xs) (ho : Only p w w') (hp : p < base) : w'.ownsRow base e size v n xs := by
  obtain ⟨h1, h2 | ⟨g, cap, cur, h2, h3, h4, h5⟩⟩ := h
  · exact ⟨h1, .inl h2⟩
  · exact ⟨h1, .inr ⟨g, cap, cur, h2, h3, (ho.block g (by omega)).trans h4, h5⟩⟩
theorem own_mono {w : World} {base base' : Nat} {e : TypeId} {size : Nat} {v : Value} {n : Nat} {xs : List Value} (h : w.ownsRow base e size v n xs) (hb : base' ≤ base) : w.ownsRow base' e size v n xs :=
  ⟨h.1, h.2.imp id fun ⟨g, cap, cur, h1, h2, h3⟩ => ⟨g, cap, cur, h1, Nat.le_trans hb h2, h3⟩⟩
theorem turnsTo_succ (n k : Nat) : turnsTo n (k + 1) = turnsTo n k ++ [.int .i64 (turnF ((k : Int) * 256 / (n : Int))).1, .int .i64 (turnF ((k : Int) * 256 / (n : Int))).2] := by
  simp [turnsTo, List.range_succ, pairCells]
theorem pairInfo : (Tryd.prog.info? 49).map (fun i => (i.zero, i.size, i.bytes)) = some (some (.agg #[.int .i64 0, .int .i64 0]), 2, 16) := by kernel_rfl
set_option maxHeartbeats 2000000 in
set_option maxRecDepth 100000 in
theorem new_any (s : Nat) (hs : s < 5) (w : World) (hC : CosW w) :
    Calls Tryd.prog 18 #[.int .i64 ((2 ^ s : Nat) : Int)] w fun e w' => ∃ pb ob tv, e = .returned (.tuple #[.pointer (some ⟨pb, 0, none⟩), .int .i64 0]) ∧ w.heap.size ≤ pb ∧ w.heap.size ≤ ob ∧ pb ≠ ob ∧
      w'.heap[pb]? = some (.cells #[.slice (some ⟨ob, 0, none⟩) (2 ^ s) (2 ^ s), tv] 130 (0, 0)) ∧ Bx ob 3 kI (2 ^ s) (fun j => (revF s j : Int)) w' ∧
      w'.ownsRow w.heap.size 49 2 tv (2 ^ s / 2) (turnsTo (2 ^ s) (2 ^ s / 2)) ∧ Below w.heap.size w w' := by
  have HT := Lib.hid (fun w => fft_there.calls _ _ w (there_pow ⟨s, hs⟩))
  have HO := Lib.hid (fun w => order_any s hs w)
  have HC := Lib.hid hC
  obtain ⟨n, hn⟩ : ∃ n : Nat, 2 ^ s = n := ⟨_, rfl⟩
  have hn1 : 0 < n := by rw [← hn]; exact Nat.pow_pos (by decide)
  have hn16 : n ≤ 16 := by rw [← hn]; exact Nat.pow_le_pow_right (by decide) (show s ≤ 4 by omega)
  simp only at HT
  rw [hn] at HT HO ⊢
  have HN := Lib.hid hn
  obtain ⟨m, hm⟩ : ∃ m : Nat, n / 2 = m := ⟨_, rfl⟩
  have hdiv : (n : Int) / 2 = (m : Int) := by omega
  have hmn : m ≤ n := by omega
  rw [hm]
  have HM := Lib.hid hm
  have HDIV := Lib.hid hdiv
  clear hn hC hm hdiv
  have T1 := turn_any
  unfold pairAgg at T1
  have HTU := Lib.hid T1
  clear T1
  go_enter Tryd.func18, Tryd.ntmps18
  go_wp2_with fail
  refine (HT.out _).mono ?_
  rintro e w1 ⟨rfl, hd⟩
  have hw1 : Below w.heap.size w w1 := Below.trans (by (repeat' (first | (with_reducible exact Below.refl _ _) | (with_reducible assumption) | (with_reducible refine Below.alloc ?_ ?_ _) | (with_reducible refine below_grew ?_ ?_ _) | (with_reducible refine Below.setCell ?_ ?_ _) | (with_reducible refine Below.drew ?_) | (with_reducible refine below_drewN ?_ _) | omega | (simp; done) | (simp; omega)))) (hd.below.mono (by simp))
  have HW1 := Lib.hid hw1
  clear hd hw1
  go_wp2_with fail
  refine (HO.out _).mono ?_
  rintro e w2 ⟨ob, rfl, hob, hbo, hb2⟩
  have hw2 : Below w.heap.size w w2 := HW1.out.trans (hb2.mono HW1.out.size)
  have hob' : w.heap.size ≤ ob := Nat.le_trans HW1.out.size hob
  have HBO := Lib.hid hbo
  have HW2 := Lib.hid hw2
  clear hbo hw2 hb2 hob
  go_wp2_with fail
  rw [HDIV.out]
  obtain ⟨pb, hpb⟩ : ∃ pb, w2.heap.size = pb := ⟨_, rfl⟩
  have hop : ob < pb := by have := (block_facts HBO.out).2.2; omega
  have hpo : pb ≠ ob := by have := (block_facts HBO.out).2.2; omega
  have hpw : w.heap.size ≤ pb := by have := HW2.out.size; omega
  rw [hpb]
  go_loopw [15] (fun cnt wr => ∃ k : Nat, k ≤ m ∧ cnt = .int .i64 k ∧ ∃ tv, wr.heap[pb]? = some (.cells #[.slice (some ⟨ob, 0, none⟩) n n, tv] 130 (0, 0)) ∧ Bx ob 3 kI n (fun j => (revF s j : Int)) wr ∧
      wr.ownsRow (pb + 1) 49 2 tv k (turnsTo n k) ∧ Below w.heap.size w wr) (fun cnt _ => m - (intOf cnt).toNat)
  case atStart =>
    refine ⟨0, by omega, rfl, .slice none 0 0, by rw [← hpb]; exact alloc_at _ _, HBO.out.keep (by (repeat' (first | (with_reducible exact Below.refl _ _) | (with_reducible assumption) | (with_reducible refine Below.alloc ?_ ?_ _) | (with_reducible refine below_grew ?_ ?_ _) | (with_reducible refine Below.setCell ?_ ?_ _) | (with_reducible refine Below.drew ?_) | (with_reducible refine below_drewN ?_ _) | omega | (simp; done) | (simp; omega)))), World.ownsRow_nil _ _ _ _, by have := HW2.out; (repeat' (first | (with_reducible exact Below.refl _ _) | (with_reducible assumption) | (with_reducible refine Below.alloc ?_ ?_ _) | (with_reducible refine below_grew ?_ ?_ _) | (with_reducible refine Below.setCell ?_ ?_ _) | (with_reducible refine Below.drew ?_) | (with_reducible refine below_drewN ?_ _) | omega | (simp; done) | (simp; omega)))⟩
  case round =>
    obtain ⟨k, hk, rfl, tv, hc, hb, hR, hB⟩ := hrel
    have HB := Lib.hid hB
    have HBX := Lib.hid hb
    have HR := Lib.hid hR
    have HCC := Lib.hid hc
    have hcell := (block_facts hc).1 1
    have hfz := (block_facts hc).2.1 1
    have hpl := (block_facts hc).2.2
    clear hB hb hR hc
    by_cases hlt : k < m
    · have hlt' : (k : Int) < (m : Int) := by omega
      have hmm : ((k : Int) * 256 + 9223372036854775808) % 18446744073709551616 - 9223372036854775808 = (k : Int) * 256 := by omega
      have hmw : IntKind.i64.wrap ((k : Int) * 256) = ((k * 256 : Nat) : Int) := by rw [wr_small (by omega) (by omega)]; omega
      have hn0 : ((n : Int) == 0) = false := beq_eq_false_iff_ne.mpr (by omega)
      have hTV : CosW wr := HC.out.below HB.out
      have HTV := Lib.hid hTV
      clear hTV
      go_wp2_with fail
      have hbs : pb + 1 ≤ wr.heap.size := by omega
      have hpw1 : w.heap.size ≤ pb + 1 := by omega
      have hop1 : pb < pb + 1 := by omega
      refine wp_region_inv [] (fun W => AT (pb + 1) 49 2 tv.ownBlock (turnsTo n) (k + 1) wr W) (fun W W' => AT (pb + 1) 49 2 tv.ownBlock (turnsTo n) (k + 1) W W') 12 (by kernel_rfl) (by kernel_rfl) (by kernel_rfl) (AT.of_below ((Below.refl _ _).drew) hbs) (fun W W' h h' => h.trans h') (fun _ _ h => h.grow.size) ?_
      simp only [List.take_succ_cons, List.take_zero, List.drop_succ_cons, List.drop_zero]
      refine wpInv_det (by kernel_rfl) (by kernel_rfl) ?_
      apply Exists.intro
      refine ⟨?_, ?_, ?_⟩
      · intro U W hC hH
        have hws := Nat.le_trans hbs hC.grow.size
        simp only [HypsU, predsOf, Region.binds, List.filterMap_cons, List.filterMap_nil, if_true, List.nil_append, List.cons_append, List.getD_cons_zero, List.getD_cons_succ] at hH
        simp only [fillPuts, Act.put, List.setIfInBounds_toArray, List.set_cons_zero, List.set_cons_succ, Nat.reduceAdd]
        go_wp2_with fail
        refine ⟨rfl, rfl, AT.of_below (by (repeat' (first | (with_reducible exact Below.refl _ _) | (with_reducible assumption) | (with_reducible refine Below.alloc ?_ ?_ _) | (with_reducible refine below_grew ?_ ?_ _) | (with_reducible refine Below.setCell ?_ ?_ _) | (with_reducible refine Below.drew ?_) | (with_reducible refine below_drewN ?_ _) | omega | (simp; done) | (simp; omega)))) hws, ?_⟩
        conv => lhs; whnf
        try rfl
      · exact fun _ => rfl
      simp only [List.nil_append, List.cons_append, Nat.reduceAdd]
      refine wpInv_det (by kernel_rfl) (by kernel_rfl) ?_
      apply Exists.intro
      refine ⟨?_, ?_, ?_⟩
      · intro U W hC hH
        have hws := Nat.le_trans hbs hC.grow.size
        simp only [HypsU, predsOf, Region.binds, List.filterMap_cons, List.filterMap_nil, if_true, List.nil_append, List.cons_append, List.getD_cons_zero, List.getD_cons_succ] at hH
        simp only [fillPuts, Act.put, List.setIfInBounds_toArray, List.set_cons_zero, List.set_cons_succ, Nat.reduceAdd]
        go_wp2_with fail
        refine ⟨rfl, rfl, AT.of_below (by (repeat' (first | (with_reducible exact Below.refl _ _) | (with_reducible assumption) | (with_reducible refine Below.alloc ?_ ?_ _) | (with_reducible refine below_grew ?_ ?_ _) | (with_reducible refine Below.setCell ?_ ?_ _) | (with_reducible refine Below.drew ?_) | (with_reducible refine below_drewN ?_ _) | omega | (simp; done) | (simp; omega)))) hws, ?_⟩
        conv => lhs; whnf
        try rfl
      · exact fun _ => rfl
      simp only [List.nil_append, List.cons_append, Nat.reduceAdd]
      refine wpInv_det (by kernel_rfl) (by kernel_rfl) ?_
      apply Exists.intro
      refine ⟨?_, ?_, ?_⟩
      · intro U W hC hH
        have hws := Nat.le_trans hbs hC.grow.size
        simp only [HypsU, predsOf, Region.binds, List.filterMap_cons, List.filterMap_nil, if_true, List.nil_append, List.cons_append, List.getD_cons_zero, List.getD_cons_succ] at hH
        simp only [fillPuts, Act.put, List.setIfInBounds_toArray, List.set_cons_zero, List.set_cons_succ, Nat.reduceAdd]
        go_wp2_with fail
        refine ⟨rfl, rfl, AT.of_below (by (repeat' (first | (with_reducible exact Below.refl _ _) | (with_reducible assumption) | (with_reducible refine Below.alloc ?_ ?_ _) | (with_reducible refine below_grew ?_ ?_ _) | (with_reducible refine Below.setCell ?_ ?_ _) | (with_reducible refine Below.drew ?_) | (with_reducible refine below_drewN ?_ _) | omega | (simp; done) | (simp; omega)))) hws, ?_⟩
        conv => lhs; whnf
        try rfl
      · exact fun _ => rfl
      simp only [List.nil_append, List.cons_append, Nat.reduceAdd]
      refine wpInv_det (by kernel_rfl) (by kernel_rfl) ?_
      apply Exists.intro
      refine ⟨?_, ?_, ?_⟩
      · intro U W hC hH
        have hws := Nat.le_trans hbs hC.grow.size
        simp only [HypsU, predsOf, Region.binds, List.filterMap_cons, List.filterMap_nil, if_true, List.nil_append, List.cons_append, List.getD_cons_zero, List.getD_cons_succ] at hH
        simp only [fillPuts, Act.put, List.setIfInBounds_toArray, List.set_cons_zero, List.set_cons_succ, Nat.reduceAdd]
        go_wp2_with fail
        refine ⟨rfl, rfl, AT.of_below (by (repeat' (first | (with_reducible exact Below.refl _ _) | (with_reducible assumption) | (with_reducible refine Below.alloc ?_ ?_ _) | (with_reducible refine below_grew ?_ ?_ _) | (with_reducible refine Below.setCell ?_ ?_ _) | (with_reducible refine Below.drew ?_) | (with_reducible refine below_drewN ?_ _) | omega | (simp; done) | (simp; omega)))) hws, ?_⟩
        conv => lhs; whnf
        try rfl
      · exact fun _ => rfl
      simp only [List.nil_append, List.cons_append, Nat.reduceAdd]
      refine wpInv_det (by kernel_rfl) (by kernel_rfl) ?_
      apply Exists.intro
      refine ⟨?_, ?_, ?_⟩
      · intro U W hC hH
        have hws := Nat.le_trans hbs hC.grow.size
        simp only [HypsU, predsOf, Region.binds, List.filterMap_cons, List.filterMap_nil, if_true, List.nil_append, List.cons_append, List.getD_cons_zero, List.getD_cons_succ] at hH
        simp only [fillPuts, Act.put, List.setIfInBounds_toArray, List.set_cons_zero, List.set_cons_succ, Nat.reduceAdd]
        have hcl := (hC.below.cell (p := ⟨pb, 1, none⟩) hop1).trans hcell; go_wp2_with fail
        refine ⟨rfl, rfl, AT.of_below (by (repeat' (first | (with_reducible exact Below.refl _ _) | (with_reducible assumption) | (with_reducible refine Below.alloc ?_ ?_ _) | (with_reducible refine below_grew ?_ ?_ _) | (with_reducible refine Below.setCell ?_ ?_ _) | (with_reducible refine Below.drew ?_) | (with_reducible refine below_drewN ?_ _) | omega | (simp; done) | (simp; omega)))) hws, ?_⟩
        conv => lhs; whnf
        try rfl
      · exact fun _ => rfl
      simp only [List.nil_append, List.cons_append, Nat.reduceAdd]
      refine wpInv_det (by kernel_rfl) (by kernel_rfl) ?_
      apply Exists.intro
      refine ⟨?_, ?_, ?_⟩
      · intro U W hC hH
        have hws := Nat.le_trans hbs hC.grow.size
        simp only [HypsU, predsOf, Region.binds, List.filterMap_cons, List.filterMap_nil, if_true, List.nil_append, List.cons_append, List.getD_cons_zero, List.getD_cons_succ] at hH
        simp only [fillPuts, Act.put, List.setIfInBounds_toArray, List.set_cons_zero, List.set_cons_succ, Nat.reduceAdd]
        go_wp2_with fail
        refine ⟨rfl, rfl, AT.of_below (by (repeat' (first | (with_reducible exact Below.refl _ _) | (with_reducible assumption) | (with_reducible refine Below.alloc ?_ ?_ _) | (with_reducible refine below_grew ?_ ?_ _) | (with_reducible refine Below.setCell ?_ ?_ _) | (with_reducible refine Below.drew ?_) | (with_reducible refine below_drewN ?_ _) | omega | (simp; done) | (simp; omega)))) hws, ?_⟩
        conv => lhs; whnf
        try rfl
      · exact fun _ => rfl
      simp only [List.nil_append, List.cons_append, Nat.reduceAdd]
      refine wpInv_det (by kernel_rfl) (by kernel_rfl) ?_
      apply Exists.intro
      refine ⟨?_, ?_, ?_⟩
      · intro U W hC hH
        have hws := Nat.le_trans hbs hC.grow.size
        simp only [HypsU, predsOf, Region.binds, List.filterMap_cons, List.filterMap_nil, if_true, List.nil_append, List.cons_append, List.getD_cons_zero, List.getD_cons_succ] at hH
        simp only [fillPuts, Act.put, List.setIfInBounds_toArray, List.set_cons_zero, List.set_cons_succ, Nat.reduceAdd]
        go_wp2_with fail
        refine ⟨rfl, rfl, AT.of_below (by (repeat' (first | (with_reducible exact Below.refl _ _) | (with_reducible assumption) | (with_reducible refine Below.alloc ?_ ?_ _) | (with_reducible refine below_grew ?_ ?_ _) | (with_reducible refine Below.setCell ?_ ?_ _) | (with_reducible refine Below.drew ?_) | (with_reducible refine below_drewN ?_ _) | omega | (simp; done) | (simp; omega)))) hws, ?_⟩
        conv => lhs; whnf
        try rfl
      · exact fun _ => rfl
      simp only [List.nil_append, List.cons_append, Nat.reduceAdd]
      refine wpInv_det (by kernel_rfl) (by kernel_rfl) ?_
      apply Exists.intro
      refine ⟨?_, ?_, ?_⟩
      · intro U W hC hH
        have hws := Nat.le_trans hbs hC.grow.size
        simp only [HypsU, predsOf, Region.binds, List.filterMap_cons, List.filterMap_nil, if_true, List.nil_append, List.cons_append, List.getD_cons_zero, List.getD_cons_succ] at hH
        simp only [fillPuts, Act.put, List.setIfInBounds_toArray, List.set_cons_zero, List.set_cons_succ, Nat.reduceAdd]
        go_wp2_with fail
        refine ⟨rfl, rfl, AT.of_below (by (repeat' (first | (with_reducible exact Below.refl _ _) | (with_reducible assumption) | (with_reducible refine Below.alloc ?_ ?_ _) | (with_reducible refine below_grew ?_ ?_ _) | (with_reducible refine Below.setCell ?_ ?_ _) | (with_reducible refine Below.drew ?_) | (with_reducible refine below_drewN ?_ _) | omega | (simp; done) | (simp; omega)))) hws, ?_⟩
        conv => lhs; whnf
        try rfl
      · exact fun _ => rfl
      simp only [List.nil_append, List.cons_append, Nat.reduceAdd]
      refine wpInv_det (by kernel_rfl) (by kernel_rfl) ?_
      apply Exists.intro
      refine ⟨?_, ?_, ?_⟩
      · intro U W hC hH
        have hws := Nat.le_trans hbs hC.grow.size
        simp only [HypsU, predsOf, Region.binds, List.filterMap_cons, List.filterMap_nil, if_true, List.nil_append, List.cons_append, List.getD_cons_zero, List.getD_cons_succ] at hH
        simp only [fillPuts, Act.put, List.setIfInBounds_toArray, List.set_cons_zero, List.set_cons_succ, Nat.reduceAdd]
        go_wp2_with fail
        refine ⟨rfl, rfl, AT.of_below (by (repeat' (first | (with_reducible exact Below.refl _ _) | (with_reducible assumption) | (with_reducible refine Below.alloc ?_ ?_ _) | (with_reducible refine below_grew ?_ ?_ _) | (with_reducible refine Below.setCell ?_ ?_ _) | (with_reducible refine Below.drew ?_) | (with_reducible refine below_drewN ?_ _) | omega | (simp; done) | (simp; omega)))) hws, ?_⟩
        conv => lhs; whnf
        try rfl
      · exact fun _ => rfl
      simp only [List.nil_append, List.cons_append, Nat.reduceAdd]
      refine wpInv_det (by kernel_rfl) (by kernel_rfl) ?_
      apply Exists.intro
      refine ⟨?_, ?_, ?_⟩
      · intro U W hC hH
        have hws := Nat.le_trans hbs hC.grow.size
        simp only [HypsU, predsOf, Region.binds, List.filterMap_cons, List.filterMap_nil, if_true, List.nil_append, List.cons_append, List.getD_cons_zero, List.getD_cons_succ] at hH
        simp only [fillPuts, Act.put, List.setIfInBounds_toArray, List.set_cons_zero, List.set_cons_succ, Nat.reduceAdd]
        go_wp2_with fail; refine (HTU.out _ _ (HC.out.below (HB.out.trans (hC.below.mono hpw1)))).mono ?_; rintro e w' ⟨rfl, hb1⟩; obtain ⟨x1, rfl⟩ := below_as_grew hb1; clear hb1; go_wp2_with fail
        refine ⟨rfl, rfl, AT.of_below (by (repeat' (first | (with_reducible exact Below.refl _ _) | (with_reducible assumption) | (with_reducible refine Below.alloc ?_ ?_ _) | (with_reducible refine below_grew ?_ ?_ _) | (with_reducible refine Below.setCell ?_ ?_ _) | (with_reducible refine Below.drew ?_) | (with_reducible refine below_drewN ?_ _) | omega | (simp; done) | (simp; omega)))) hws, ?_⟩
        conv => lhs; whnf
        try rfl
      · exact fun _ => rfl
      simp only [List.nil_append, List.cons_append, Nat.reduceAdd]
      obtain ⟨T, hT⟩ : ∃ T : Int × Int, T = turnF ((k : Int) * 256 / (n : Int)) := ⟨_, rfl⟩
      have HTT := Lib.hid hT
      refine ⟨fun U W => ∃ q, U 10 = .slice (some ⟨q, 0, none⟩) 1 1 ∧ wr.heap.size ≤ q ∧ W.heap[q]? = some (.cells #[.int .i64 T.1, .int .i64 T.2] 49 (0, 0)), fun _ _ => rfl, ?_, ?_, ?_⟩
      · rintro U W W' hC hT ⟨q, h0, hq, hqc⟩
        exact ⟨q, h0, hq, (hT.grow.block q (Array.getElem?_eq_some_iff.1 hqc).1 (fun e => by have := (own_lt' HR.out q e.symm).2; omega)).trans hqc⟩
      · intro U W hC hH
        have hws := Nat.le_trans hbs hC.grow.size
        simp only [HypsU, predsOf, Region.binds, List.filterMap_cons, List.filterMap_nil, if_true, List.nil_append, List.cons_append, List.getD_cons_zero, List.getD_cons_succ] at hH
        simp only [fillPuts, Act.put, List.setIfInBounds_toArray, List.set_cons_zero, List.set_cons_succ, Nat.reduceAdd]
        go_wp2_with fail
        rw [← hT]
        refine ⟨rfl, rfl, AT.of_below (by (repeat' (first | (with_reducible exact Below.refl _ _) | (with_reducible assumption) | (with_reducible refine Below.alloc ?_ ?_ _) | (with_reducible refine below_grew ?_ ?_ _) | (with_reducible refine Below.setCell ?_ ?_ _) | (with_reducible refine Below.drew ?_) | (with_reducible refine below_drewN ?_ _) | omega | (simp; done) | (simp; omega)))) hws, ⟨_, updU_eq _ _ _, hC.grow.size, alloc_at _ _⟩, fun h => by cases h⟩
      clear hT
      simp only [List.nil_append, List.cons_append, Nat.reduceAdd]
      refine ⟨fun U W => ∃ g c, U 11 = .slice (some ⟨g, 0, none⟩) (k + 1) c ∧ W.ownsRow (pb + 1) 49 2 (.slice (some ⟨g, 0, none⟩) (k + 1) c) (k + 1) (turnsTo n (k + 1)), fun _ _ => rfl, ?_, ?_, ?_⟩
      · rintro U W W' hC hT ⟨g, c, h0, ho⟩
        exact ⟨g, c, h0, hT.keep _ _ (Nat.le_refl _) ho⟩
      · intro U W hC hH
        have hws := Nat.le_trans hbs hC.grow.size
        simp only [HypsU, predsOf, Region.binds, List.filterMap_cons, List.filterMap_nil, if_true, List.nil_append, List.cons_append, List.getD_cons_zero, List.getD_cons_succ] at hH
        simp only [fillPuts, Act.put, List.setIfInBounds_toArray, List.set_cons_zero, List.set_cons_succ, Nat.reduceAdd]
        obtain ⟨h4, ⟨q, h10, hq, hqc⟩, -⟩ := hH
        simp only [h4, h10]
        have hRW := hC.keep tv k (by omega) HR.out
        refine append_at rfl _ _ 32 rfl (pb + 1) 49 49 (.agg #[.int .i64 0, .int .i64 0]) 2 16 Tryd.underlying32 pairInfo rfl (by decide) tv k (turnsTo n) rfl hRW q [_, _] rfl hqc rfl ?h1 ?h63 ?hby hws ?htn ?_
        (case h1 => simp [Value.oneCell']; done)
        (case h63 => exact maxLen_le (by omega))
        (case hby => omega)
        (case htn => rw [turnsTo_succ, HTT.out])
        intro g' c' w' hR' hAT
        refine ⟨rfl, rfl, hAT, ⟨g', c', updU_eq _ _ _, hR'⟩, fun h => by cases h⟩
      simp only [List.nil_append, List.cons_append, Nat.reduceAdd, fillPuts, Act.put, List.setIfInBounds_toArray, List.set_cons_zero, List.set_cons_succ]
      rintro U W hC ⟨h0, h1, h2, h3, h4, h5, h6, h7, h8, h9, -, ⟨g', c', h11, hR'⟩, -⟩ -
      simp only [h0, h1, h2, h3, h4, h5, h6, h7, h8, h9, h11]
      clear h0 h1 h2 h3 h4 h5 h6 h7 h8 h9 h11
      have hc2 : W.heap[pb]? = some (.cells #[.slice (some ⟨ob, 0, none⟩) n n, tv] 130 (0, 0)) := (hC.below.block pb hop1).trans HCC.out
      have hB2 : Below w.heap.size w W := HB.out.trans (hC.below.mono hpw1)
      have hbx2 : Bx ob 3 kI n (fun j => (revF s j : Int)) W := (hC.below.block ob (by omega)).trans HBX.out
      obtain ⟨v', hv'⟩ : ∃ v', v' = Value.slice (some ⟨g', 0, none⟩) (k + 1) c' := ⟨_, rfl⟩
      rw [← hv'] at hR'
      have hcl2 := (block_facts hc2).1 1
      have hfz2 := (block_facts hc2).2.1 1
      have hO := only_setCell W ⟨pb, 1, none⟩ v'
      have hc3 := setCell_own W pb 1 _ _ _ v' hc2
      have hR3 := own_only hR' hO (by show pb < pb + 1; omega)
      have hB3 := hO.below hB2 hpw
      have hbx3 := hbx2.only hO (Ne.symm hpo)
      have hRX : (W.setCell ⟨pb, 1, none⟩ v').ownsRow (pb + 1) 49 2 v' (k + 1) (turnsTo n (k + 1)) := hR3
      have HF := Lib.hid (And.intro hc3 (And.intro hbx3 (And.intro hRX hB3)))
      clear hc3 hR3 hB3 hbx3 hRX hO hbx2 hB2 hc2 hR' hC
      subst hv'
      go_wp2_with fail
      refine ⟨⟨k + 1, by omega, by go_num, _, HF.out.1, HF.out.2.1, HF.out.2.2.1, HF.out.2.2.2⟩, ?_⟩
      simp only [intOf]
      omega
    · have hlt' : ¬ (k : Int) < (m : Int) := by omega
      obtain rfl : k = m := by omega
      go_wp2_with fail
      go_ret2
      exact ⟨pb, rfl, hpw, ob, hob', hpo, tv, HCC.out, HBX.out, own_mono HR.out (by omega), HB.out⟩
end Go.Proofs.YtcibajleknhklaaDoor
end

section
namespace Go.Proofs.YtcibajleknhklaaDoor
open Go.RowKit Go.BigFrame Go.Proofs.YtcibajleknhklaaDoorW.PrintWords Go.Proofs.YtcibajleknhklaaDoorW.PrintLast Go.Proofs.YtcibajleknhklaaDoorW.PrintMore
open PFftOrders RFftOrders
set_option linter.unusedSimpArgs false
set_option linter.unusedVariables false
theorem turnsTo_len (n : Nat) : ∀ m, (turnsTo n m).length = m * 2
  | 0 => rfl
  | m + 1 => by rw [turnsTo_succ, List.length_append, turnsTo_len n m]; simp; omega
theorem turnsTo_get (n : Nat) : ∀ m k, k < m → (turnsTo n m)[k * 2]? = some (.int .i64 (planTurn n k).1) ∧ (turnsTo n m)[k * 2 + 1]? = some (.int .i64 (planTurn n k).2)
  | 0, k, h => by omega
  | m + 1, k, h => by
    have hl := turnsTo_len n m
    have e : planTurn n m = turnF ((m : Int) * 256 / (n : Int)) := by unfold planTurn; congr 1
    rw [turnsTo_succ]
    rcases Nat.lt_or_ge k m with h1 | h1
    · obtain ⟨a, b⟩ := turnsTo_get n m k h1
      rw [List.getElem?_append_left (by omega), List.getElem?_append_left (by omega)]
      exact ⟨a, b⟩
    · obtain rfl : k = m := by omega
      rw [List.getElem?_append_right (by omega), List.getElem?_append_right (by omega), hl, Nat.sub_self, show k * 2 + 1 - k * 2 = 1 from by omega, e]
      exact ⟨rfl, rfl⟩
/-- A plan: its struct at pb, its order at ob, its turns in the row tv. -/
structure PlanR (pb ob : Nat) (tv : Value) (s : Nat) (w : World) : Prop where
  ne : pb ≠ ob
  st : w.heap[pb]? = some (.cells #[.slice (some ⟨ob, 0, none⟩) (2 ^ s) (2 ^ s), tv] 130 (0, 0))
  ord : Bx ob 3 kI (2 ^ s) (fun j => (revF s j : Int)) w
  own : w.ownsRow 0 49 2 tv (2 ^ s / 2) (turnsTo (2 ^ s) (2 ^ s / 2))
theorem PlanR.keep {pb ob s : Nat} {tv : Value} {w w' : World} (h : PlanR pb ob tv s w) (hb : Below w.heap.size w w') : PlanR pb ob tv s w' :=
  ⟨h.ne, (hb.block pb (block_facts h.st).2.2).trans h.st, h.ord.keep hb, ownsRow_below h.own hb⟩
theorem PlanR.upd {pb ob s g : Nat} {tv : Value} {w w' : World} (h : PlanR pb ob tv s w) (hu : Upd g w w') (h1 : pb ≠ g) (h2 : ob ≠ g) (h3 : some g ≠ tv.ownBlock) : PlanR pb ob tv s w' := by
  refine ⟨h.ne, (hu.block pb (block_facts h.st).2.2 h1).trans h.st, (hu.block ob (block_facts h.ord).2.2 h2).trans h.ord, ?_⟩
  obtain ⟨a, b | ⟨g', cap, cur, b1, b2, b3, b4⟩⟩ := h.own
  · exact ⟨a, .inl b⟩
  · exact ⟨a, .inr ⟨g', cap, cur, b1, b2, (hu.block g' (Array.getElem?_eq_some_iff.1 b3).1 (fun e => h3 (by rw [b1, e]; rfl))).trans b3, b4⟩⟩
theorem into_plan (s : Nat) (hs : s < 5) (g zb pb ob cap zc : Nat) (tv : Value) (l : List (Int × Int)) (X : Nat → Int × Int) (w : World) (hP : PlanR pb ob tv s w) (hB : BigW g (2 ^ s) X w)
    (h1 : pb ≠ g) (h2 : ob ≠ g) (h3 : some g ≠ tv.ownBlock)
    (hZ : ∀ k, k < 2 ^ s → w.cell? ⟨zb, k * 2, none⟩ = some (.int .i64 (l.getD k (0, 0)).1) ∧ w.cell? ⟨zb, k * 2 + 1, none⟩ = some (.int .i64 (l.getD k (0, 0)).2)) (hzl : zb < w.heap.size) (hzg : zb ≠ g)
    (h64 : ∀ k, k < 2 ^ s → In64 (l.getD k (0, 0)).1 ∧ In64 (l.getD k (0, 0)).2) (hc : 2 ^ s ≤ cap) (hcc : cap ≤ 1000000) (hl : l.length = 2 ^ s) :
    Calls Tryd.prog 22 #[.pointer (some ⟨pb, 0, none⟩), .slice (some ⟨g, 0, none⟩) (2 ^ s) cap, .slice (some ⟨zb, 0, none⟩) (2 ^ s) zc] w fun e w' => e = .returned (.bool true) ∧ Upd g w w' ∧
      BigW g (2 ^ s) (fun k => sumTo s l k (2 ^ s)) w' := by
  have hpb := block_facts hP.st
  by_cases hs0 : 0 < s
  · have hm : 0 < 2 ^ s / 2 := by
      have := Nat.pow_le_pow_right (n := 2) (by decide) (show 1 ≤ s from hs0)
      omega
    obtain ⟨tb, tc, rfl, -, htl⟩ := own_form hP.own hm
    have hT : TurnsW pb tb (2 ^ s / 2) tc g (planTurn (2 ^ s)) w := ⟨h1, fun e => h3 (by rw [e]; rfl), hpb.2.2, htl, by rw [hpb.1]; rfl, fun k hk => by
      obtain ⟨a, b⟩ := turnsTo_get (2 ^ s) _ k hk
      have a1 := hP.own.cells (g := tb) rfl _ _ a
      have b1 := hP.own.cells (g := tb) rfl _ _ b
      rw [Addr.add_lit, Nat.zero_add] at a1 b1
      exact ⟨a1, b1⟩⟩
    refine (into_any s hs g zb pb ob tb tc cap zc (fun k => l.getD k (0, 0)) X w hB (by rw [hpb.1]; rfl) hpb.2.2 h1 hP.ord h2 (fun _ => hT) hZ hzl hzg h64 hc hcc).mono ?_
    rintro e w' ⟨rfl, hu, hb⟩
    exact ⟨rfl, hu, bigW_ext hb (fun k hk => fft_direct s (by omega) l k hk)⟩
  · refine (into_any s hs g zb pb ob 0 0 cap zc (fun k => l.getD k (0, 0)) X w hB (by rw [hpb.1]; rfl) hpb.2.2 h1 hP.ord h2 (fun h => absurd h hs0) hZ hzl hzg h64 hc hcc).mono ?_
    rintro e w' ⟨rfl, hu, hb⟩
    exact ⟨rfl, hu, bigW_ext hb (fun k hk => fft_direct s (by omega) l k hk)⟩
theorem new_plan (s : Nat) (hs : s < 5) (w : World) (hC : CosW w) :
    Calls Tryd.prog 18 #[.int .i64 ((2 ^ s : Nat) : Int)] w fun e w' => ∃ pb ob tv, e = .returned (.tuple #[.pointer (some ⟨pb, 0, none⟩), .int .i64 0]) ∧ w.heap.size ≤ pb ∧ w.heap.size ≤ ob ∧ (∀ k, tv.ownBlock = some k → w.heap.size ≤ k ∧ k < w'.heap.size) ∧ PlanR pb ob tv s w' ∧ Below w.heap.size w w' := by
  refine (new_any s hs w hC).mono ?_
  rintro e w' ⟨pb, ob, tv, rfl, h1, h2, h3, h4, h5, h6, h7⟩
  exact ⟨pb, ob, tv, rfl, h1, h2, fun k hk => own_lt' h6 k hk, ⟨h3, h4, h5, own_mono h6 (Nat.zero_le _)⟩, h7⟩
theorem bigW_new (w : World) (n : Nat) : BigW w.heap.size n (fun _ => (0, 0)) (w.alloc (.cells (ag kB (n * 4) fun _ => 0) BigT)) := by
  have e : ag kB (n * 4) (bigF fun _ => (0, 0)) = ag kB (n * 4) fun _ => 0 := ag_ext kB _ _ _ (fun j _ => by
    unfold bigF; (repeat' split) <;> first | (show accHi 0 = 0; decide +kernel) | (show accLo 0 = 0; decide +kernel))
  unfold BigW
  rw [Bx, e]
  exact alloc_at _ _
theorem big_zero (i : Nat) : (Value.agg #[.int .i64 0, .int .u64 0, .int .i64 0, .int .u64 0]).cells[i % (Value.agg #[.int .i64 0, .int .u64 0, .int .i64 0, .int .u64 0]).cells.size]! = .int (kB i) 0 := by
  have h : i % 4 = 0 ∨ i % 4 = 1 ∨ i % 4 = 2 ∨ i % 4 = 3 := by omega
  show (#[Value.int .i64 0, .int .u64 0, .int .i64 0, .int .u64 0] : Array Value)[i % 4]! = .int (kB i) 0
  unfold kB
  rcases h with h | h | h | h
  · rw [h, if_pos (by omega)]; rfl
  · rw [h, if_neg (by omega)]; rfl
  · rw [h, if_pos (by omega)]; rfl
  · rw [h, if_neg (by omega)]; rfl
end Go.Proofs.YtcibajleknhklaaDoor
end

section
namespace Go.Proofs.YtcibajleknhklaaDoor
open Go.RowKit Go.BigFrame Go.Proofs.YtcibajleknhklaaDoorW.PrintWords Go.Proofs.YtcibajleknhklaaDoorW.PrintLast Go.Proofs.YtcibajleknhklaaDoorW.PrintMore
set_option linter.unusedSimpArgs false
set_option linter.unusedVariables false
theorem own_cells {w : World} {base : Nat} {e : TypeId} {size n : Nat} {v : Value} {xs : List Value} (h : w.ownsRow base e size v n xs) (hn : 0 < n) :
    ∃ g c, v = .slice (some ⟨g, 0, none⟩) n c ∧ g < w.heap.size ∧ base ≤ g ∧ ∀ j, j < n * size → w.cell? ⟨g, j, none⟩ = xs[j]? := by
  obtain ⟨h1, h2⟩ := h
  rcases h2 with ⟨_, h2⟩ | ⟨g, cap, cur, hv, hg, hh, hc1, hc2, hc3, hc4⟩
  · omega
  · refine ⟨g, cap, hv, (Array.getElem?_eq_some_iff.1 hh).1, hg, fun j hj => ?_⟩
    rw [cell_of_row w g j cur e _ hh, ← hc4, List.getElem?_take, if_pos hj]
    simp
theorem empty_own (Z : World) (e : TypeId) (size : Nat) : (Z.alloc (.cells #[] e)).ownsRow Z.heap.size e size (.slice (some ⟨Z.heap.size, 0, none⟩) 0 0) 0 [] :=
  ⟨by simp, .inr ⟨Z.heap.size, 0, #[], rfl, Nat.le_refl _, alloc_at _ _, Nat.le_refl _, Nat.zero_le _, by simp, by simp⟩⟩
theorem bigs_at (f : Nat → Int × Int) : ∀ n j i, j < n → i < 4 → (((List.range n).map f).flatMap bigCells)[j * 4 + i]? = (bigCells (f j))[i]?
  | 0, j, i, h, _ => absurd h (by omega)
  | n + 1, j, i, h, hi => by
    have hl : ∀ m, (((List.range m).map f).flatMap bigCells).length = m * 4 := fun m => by
      induction m with
      | zero => rfl
      | succ m ih => rw [List.range_succ, List.map_append, List.flatMap_append, List.length_append, ih]; simp [bigCells]; omega
    rw [List.range_succ, List.map_append, List.flatMap_append]
    by_cases e : j < n
    · rw [List.getElem?_append_left (by rw [hl]; omega)]
      exact bigs_at f n j i e hi
    · obtain rfl : j = n := by omega
      rw [List.getElem?_append_right (by rw [hl]; omega), hl]
      simp [show j * 4 + i - j * 4 = i by omega]
end Go.Proofs.YtcibajleknhklaaDoor
end

section
namespace Go.Proofs.YtcibajleknhklaaDoor
open Go.RowKit Go.BigFrame Go.Proofs.YtcibajleknhklaaDoorW.PrintWords Go.Proofs.YtcibajleknhklaaDoorW.PrintLast Go.Proofs.YtcibajleknhklaaDoorW.PrintMore
set_option linter.unusedSimpArgs false
set_option linter.unusedVariables false
/-- The pair of a spectrum at a place. -/
def dctPair (n : Nat) (x : Nat → Int) (j : Nat) : Int × Int := wmul (x (2 * j), x (n - 1 - 2 * j)) (turnF (((4 * j + 1) * 32 / n : Nat) : Int))
def dctZ (s : Nat) (x : Nat → Int) : List (Int × Int) := (List.range (2 ^ s)).map (dctPair (2 ^ (s + 1)) x)
def dctY (s : Nat) (x : Nat → Int) (k : Nat) : Int × Int := wmul (sumTo s (dctZ s x) k (2 ^ s)) (turnF ((k * 128 / 2 ^ (s + 1) : Nat) : Int))
def dctSh (s : Nat) : Nat := 12 * (s + 2)
def dctF (s : Nat) (x : Nat → Int) (i : Nat) : Int := if i % 2 = 0 then clamp32 (rnd (dctSh s) (dctY s x (i / 2)).1) else clamp32 (rnd (dctSh s) (-(dctY s x ((2 ^ (s + 1) - 1 - i) / 2)).2))
/-- A row of 32 bit numbers in a block. -/
def R32 (g N n : Nat) (T : TypeId) (f : Nat → Int) (w : World) : Prop := ∃ cs, w.heap[g]? = some (.cells cs T (0, 0)) ∧ cs.size = N ∧ ∀ i, i < n → cs[i]? = some (.int .i32 (f i))
theorem R32.lt {g N n T f} {w : World} (h : R32 g N n T f w) : g < w.heap.size := by obtain ⟨cs, h1, -, _⟩ := h; exact (block_facts h1).2.2
theorem R32.cell {g N n T f} {w : World} (h : R32 g N n T f w) (i : Nat) (hi : i < n) : w.cell? ⟨g, i, none⟩ = some (.int .i32 (f i)) ∧ w.frozen? ⟨g, i, none⟩ = false := by
  obtain ⟨cs, h1, hN, h2⟩ := h
  exact ⟨by rw [(block_facts h1).1]; exact h2 i hi, (block_facts h1).2.1 i⟩
theorem R32.block {g N n T f} {w w' : World} (h : R32 g N n T f w) (e : w'.heap[g]? = w.heap[g]?) : R32 g N n T f w' := by
  obtain ⟨cs, h1, hN, h2⟩ := h
  exact ⟨cs, e.trans h1, hN, h2⟩
theorem R32.keep {g N n T f} {w w' : World} (h : R32 g N n T f w) (hb : Below w.heap.size w w') : R32 g N n T f w' := h.block (hb.block g h.lt)
theorem R32.set {g N n T f} {w : World} (h : R32 g N n T f w) (i : Nat) (x : Int) : R32 g N n T (updI f i x) (w.setCell ⟨g, i, none⟩ (.int .i32 x)) := by
  obtain ⟨cs, h1, hN, h2⟩ := h
  refine ⟨_, setCell_own w g i cs T (0, 0) _ h1, by rw [Array.size_setIfInBounds]; exact hN, fun j hj => ?_⟩
  unfold updI
  by_cases e : j = i
  · subst e
    rw [if_pos rfl, Array.getElem?_setIfInBounds, if_pos rfl, if_pos (Array.getElem?_eq_some_iff.1 (h2 j hj)).1]
  · rw [if_neg e, Array.getElem?_setIfInBounds, if_neg (Ne.symm e)]
    exact h2 j hj
theorem R32.of_bx {g n : Nat} {T : TypeId} {f : Nat → Int} {w : World} (h : Bx g T (fun _ => .i32) n f w) : R32 g n n T f w := ⟨_, h, ag_size _ _ _, fun i hi => ag_get _ _ _ _ hi⟩
theorem R32.to_bx {g n : Nat} {T : TypeId} {f : Nat → Int} {w : World} (h : R32 g n n T f w) : Bx g T (fun _ => .i32) n f w := by
  obtain ⟨cs, h1, hN, h2⟩ := h
  have e : cs = ag (fun _ => .i32) n f := by
    apply Array.ext
    · rw [hN, ag_size]
    · intro i hi1 hi2
      have h3 := h2 i (by omega)
      have h4 := ag_get (fun _ => IntKind.i32) n f i (by omega)
      rw [← h4] at h3
      have := (Array.getElem?_eq_getElem hi1).symm.trans (h3.trans (Array.getElem?_eq_getElem hi2))
      exact Option.some.inj this
  rw [Bx, h1, e]
theorem R32.ext {g N n : Nat} {T : TypeId} {f f' : Nat → Int} {w : World} (h : R32 g N n T f w) (e : ∀ i, i < n → f i = f' i) : R32 g N n T f' w := by
  obtain ⟨cs, h1, hN, h2⟩ := h
  exact ⟨cs, h1, hN, fun i hi => by rw [← e i hi]; exact h2 i hi⟩
/-- There are three lengths. -/
theorem dct_s (s : Nat) (h1 : 2 ≤ s) (h2 : s ≤ 4) : s = 2 ∨ s = 3 ∨ s = 4 := by omega
theorem there_dct (s : Nat) (h1 : 2 ≤ s) (h2 : s ≤ 4) (w : World) : Calls Tryd.prog 65 #[.int .i64 ((2 ^ (s + 1) : Nat) : Int)] w fun e w' => e = .returned (.bool true) ∧ Below w.heap.size w w' := by
  have e8 : bits .and .i64 8 7 = 0 := by decide +kernel
  have e16 : bits .and .i64 16 15 = 0 := by decide +kernel
  have e32 : bits .and .i64 32 31 = 0 := by decide +kernel
  rcases dct_s s h1 h2 with rfl | rfl | rfl
  · show Calls Tryd.prog 65 #[.int .i64 8] w _
    go_enter Tryd.func65, Tryd.ntmps65
    go_wp2
    go_ret
    exact ⟨rfl, by (repeat' (first | (with_reducible exact Below.refl _ _) | (with_reducible assumption) | (with_reducible refine Below.alloc ?_ ?_ _) | (with_reducible refine below_grew ?_ ?_ _) | (with_reducible refine Below.setCell ?_ ?_ _) | (with_reducible refine Below.drew ?_) | (with_reducible refine below_drewN ?_ _) | omega | (simp; done) | (simp; omega)))⟩
  · show Calls Tryd.prog 65 #[.int .i64 16] w _
    go_enter Tryd.func65, Tryd.ntmps65
    go_wp2
    go_ret
    exact ⟨rfl, by (repeat' (first | (with_reducible exact Below.refl _ _) | (with_reducible assumption) | (with_reducible refine Below.alloc ?_ ?_ _) | (with_reducible refine below_grew ?_ ?_ _) | (with_reducible refine Below.setCell ?_ ?_ _) | (with_reducible refine Below.drew ?_) | (with_reducible refine below_drewN ?_ _) | omega | (simp; done) | (simp; omega)))⟩
  · show Calls Tryd.prog 65 #[.int .i64 32] w _
    go_enter Tryd.func65, Tryd.ntmps65
    go_wp2
    go_ret
    exact ⟨rfl, by (repeat' (first | (with_reducible exact Below.refl _ _) | (with_reducible assumption) | (with_reducible refine Below.alloc ?_ ?_ _) | (with_reducible refine below_grew ?_ ?_ _) | (with_reducible refine Below.setCell ?_ ?_ _) | (with_reducible refine Below.drew ?_) | (with_reducible refine below_drewN ?_ _) | omega | (simp; done) | (simp; omega)))⟩
theorem shift_any (s : Nat) (h1 : 2 ≤ s) (h2 : s ≤ 4) (w : World) : Calls Tryd.prog 106 #[.int .i64 ((2 ^ (s + 1) : Nat) : Int)] w fun e w' => e = .returned (.int .i64 (dctSh s : Int)) ∧ w = w' := by
  have l8 : Lib.bitLen (8 : Int).toNat = 4 := by decide +kernel
  have l16 : Lib.bitLen (16 : Int).toNat = 5 := by decide +kernel
  have l32 : Lib.bitLen (32 : Int).toNat = 6 := by decide +kernel
  have q8 := Lib.hid (fun w => len_any 8 w (by decide) (by decide))
  have q16 := Lib.hid (fun w => len_any 16 w (by decide) (by decide))
  have q32 := Lib.hid (fun w => len_any 32 w (by decide) (by decide))
  rw [l8] at q8
  rw [l16] at q16
  rw [l32] at q32
  have u8 : IntKind.u64.wrap 8 = 8 := by decide
  have u16 : IntKind.u64.wrap 16 = 16 := by decide
  have u32 : IntKind.u64.wrap 32 = 32 := by decide
  clear l8 l16 l32
  rcases dct_s s h1 h2 with rfl | rfl | rfl
  · show Calls Tryd.prog 106 #[.int .i64 8] w _
    go_enter Tryd.func106, Tryd.ntmps106
    go_wp2_with fail
    refine (q8.out _).mono ?_
    rintro e w' ⟨rfl, rfl⟩
    go_wp2_with fail
    go_ret
    exact ⟨rfl, rfl⟩
  · show Calls Tryd.prog 106 #[.int .i64 16] w _
    go_enter Tryd.func106, Tryd.ntmps106
    go_wp2_with fail
    refine (q16.out _).mono ?_
    rintro e w' ⟨rfl, rfl⟩
    go_wp2_with fail
    go_ret
    exact ⟨rfl, rfl⟩
  · show Calls Tryd.prog 106 #[.int .i64 32] w _
    go_enter Tryd.func106, Tryd.ntmps106
    go_wp2_with fail
    refine (q32.out _).mono ?_
    rintro e w' ⟨rfl, rfl⟩
    go_wp2_with fail
    go_ret
    exact ⟨rfl, rfl⟩
set_option maxHeartbeats 2000000 in
set_option maxRecDepth 100000 in
theorem pair_any (s : Nat) (h1 : 2 ≤ s) (h2 : s ≤ 4) (b off c : Nat) (x : Nat → Int) (w : World) (hT : CosW w) (hb : b < w.heap.size)
    (hx : ∀ i, i < 2 ^ (s + 1) → w.cell? ⟨b, off + i, none⟩ = some (.int .i32 (x i)) ∧ (-2147483648 ≤ x i ∧ x i ≤ 2147483647)) (j : Nat) (hj : j < 2 ^ s) :
    Calls Tryd.prog 66 #[.slice (some ⟨b, off, none⟩) (2 ^ (s + 1)) c, .int .i64 j] w fun e w' => e = .returned (pairAgg (dctPair (2 ^ (s + 1)) x j)) ∧ Below w.heap.size w w' := by
  obtain ⟨n, hn⟩ : ∃ n : Nat, 2 ^ (s + 1) = n := ⟨_, rfl⟩
  have hnh : n = 2 ^ s + 2 ^ s := by rw [← hn, Nat.pow_succ]; omega
  have hn8 : 8 ≤ n ∧ n ≤ 32 := by
    rcases dct_s s h1 h2 with rfl | rfl | rfl <;> (rw [← hn]; decide)
  rw [hn] at hx ⊢
  obtain ⟨e, he⟩ : ∃ e : Nat, 2 * j = e := ⟨_, rfl⟩
  obtain ⟨o, ho⟩ : ∃ o : Nat, n - 1 - e = o := ⟨_, rfl⟩
  have hen : e < n := by omega
  have hon : o < n := by omega
  obtain ⟨c0, p0⟩ := hx e hen
  obtain ⟨c1, p1⟩ := hx o hon
  obtain ⟨q, hq⟩ : ∃ q : Nat, (4 * j + 1) * 32 / n = q := ⟨_, rfl⟩
  have hje : 2 * (j : Int) = (e : Int) := by omega
  have hoe : (n : Int) - 1 - (e : Int) = (o : Int) := by omega
  have hqq : (4 * (j : Int) + 1) * 32 / (n : Int) = (q : Int) := by rw [← hq]; simp
  have HQQ := Lib.hid hqq
  clear hqq
  have hdp : dctPair n x j = wmul (x e, x o) (turnF (q : Int)) := by
    unfold dctPair
    rw [hq, he, ho]
  rw [hdp]
  have hte := times_exact (x e, x o) (turnF (q : Int)) (by unfold small; simp only; omega) (turnF_small _)
  have ht := times_any (x e, x o) (turnF (q : Int))
  rw [hte] at ht
  obtain ⟨P, hP⟩ : ∃ P, wmul (x e, x o) (turnF (q : Int)) = P := ⟨_, rfl⟩
  rw [hP] at ht ⊢
  have hu := fun w h => turn_any (q : Int) w h
  obtain ⟨T, hTT⟩ : ∃ T, turnF (q : Int) = T := ⟨_, rfl⟩
  rw [hTT] at ht hu
  generalize x e = xe at *
  generalize x o = xo at *
  unfold pairAgg at ht hu ⊢
  have HTM := Lib.hid ht
  have HTU := Lib.hid hu
  have HC := Lib.hid hT
  have he0 : (0 : Int) ≤ e := by omega
  have ho0 : (0 : Int) ≤ o := by omega
  have hen' : (e : Int) < n := by omega
  have hon' : (o : Int) < n := by omega
  have hn0 : ¬ n = 0 := by omega
  have w1 : (((e : Int)) + 9223372036854775808) % 18446744073709551616 - 9223372036854775808 = (e : Int) := by omega
  have w2 : (((n : Int) - 1) + 9223372036854775808) % 18446744073709551616 - 9223372036854775808 = (n : Int) - 1 := by omega
  have w3 : (((o : Int)) + 9223372036854775808) % 18446744073709551616 - 9223372036854775808 = (o : Int) := by omega
  have w4 : ((4 * (j : Int)) + 9223372036854775808) % 18446744073709551616 - 9223372036854775808 = 4 * (j : Int) := by omega
  have w5 : ((4 * (j : Int) + 1) + 9223372036854775808) % 18446744073709551616 - 9223372036854775808 = 4 * (j : Int) + 1 := by omega
  have w6 : (((4 * (j : Int) + 1) * 32) + 9223372036854775808) % 18446744073709551616 - 9223372036854775808 = (4 * (j : Int) + 1) * 32 := by omega
  clear hx hq hte hdp hP hTT ht hu hT hn hnh he ho
  go_enter Tryd.func66, Tryd.ntmps66
  go_wp2_with fail
  first | refine wp_region_grew2 24 (by kernel_rfl) (by kernel_rfl) ?_ | refine wp_region_grew 24 (by kernel_rfl) (by kernel_rfl) ?_
  simp only [List.take_succ_cons, List.take_zero, List.drop_succ_cons, List.drop_zero]
  repeat (go_big_quiet_step (first | (go_at_call 61; rw [HQQ.out]; refine Calls.grew_of (HTU.out _ ?_); exact HC.out.below (by (repeat' (first | (with_reducible exact Below.refl _ _) | (with_reducible assumption) | (with_reducible refine Below.alloc ?_ ?_ _) | (with_reducible refine below_grew ?_ ?_ _) | (with_reducible refine Below.setCell ?_ ?_ _) | (with_reducible refine Below.drew ?_) | (with_reducible refine below_drewN ?_ _) | omega | (simp; done) | (simp; omega))))) | (go_at_call 104; exact Calls.grew_of (HTM.out _))))
  refine wpQuiet_nil ?_
  rintro _ ⟨x, rfl⟩
  go_wp2_with fail
  refine bodyPost_ret (v := _) (by simp [results, Tryd.results66, go_sem]; rfl) rfl ⟨?_, ?_⟩
  · rfl
  · (repeat' (first | (with_reducible exact Below.refl _ _) | (with_reducible assumption) | (with_reducible refine Below.alloc ?_ ?_ _) | (with_reducible refine below_grew ?_ ?_ _) | (with_reducible refine Below.setCell ?_ ?_ _) | (with_reducible refine Below.drew ?_) | (with_reducible refine below_drewN ?_ _) | omega | (simp; done) | (simp; omega)))
theorem rnd_in (s : Nat) (hs : 0 < s) {z : Int} (h : In128 z) : In128 (rnd s z) := by
  have h1 : In128 (z / 2) := by unfold In128 at *; omega
  have hp : (0 : Int) < 2 ^ (s - 1) := Int.pow_pos (by decide)
  have e : z / 2 ^ s = z / 2 / 2 ^ (s - 1) := by
    rw [Int.ediv_ediv_of_nonneg (by decide), show (2 : Int) * 2 ^ (s - 1) = 2 ^ s from by
      conv => rhs; rw [show s = 1 + (s - 1) from by omega, Int.pow_add]
      rfl]
  have h2 : -85070591730234615865843651857942052864 ≤ z / 2 / 2 ^ (s - 1) ∧ z / 2 / 2 ^ (s - 1) < 85070591730234615865843651857942052864 := by
    have hz2 : -85070591730234615865843651857942052864 ≤ z / 2 ∧ z / 2 < 85070591730234615865843651857942052864 := by unfold In128 at h; omega
    constructor
    · refine Int.le_ediv_of_mul_le hp ?_
      have h1 : (1 : Int) ≤ 2 ^ (s - 1) := hp
      have := Int.mul_le_mul_of_nonneg_left h1 (show (0 : Int) ≤ 85070591730234615865843651857942052864 by decide)
      omega
    · by_cases h0 : 0 ≤ z / 2
      · exact Int.lt_of_le_of_lt (Int.ediv_le_self _ h0) hz2.2
      · have : z / 2 / 2 ^ (s - 1) < 0 := Int.ediv_neg_of_neg_of_pos (by omega) hp
        omega
  unfold rnd
  rw [e]
  generalize z / 2 / 2 ^ (s - 1) = u at *
  generalize z / 2 ^ (s - 1) = v
  unfold In128
  omega
theorem clamp_i32 (v : Int) : IntKind.i32.wrap (clamp32 v) = clamp32 v := by
  rw [IntKind.wrap_i32]; unfold clamp32; omega
set_option maxHeartbeats 2000000 in
set_option maxRecDepth 100000 in
theorem put_any (s : Nat) (h1 : 2 ≤ s) (h2 : s ≤ 4) (g N c : Nat) (T : TypeId) (f : Nat → Int) (S tu : Int × Int) (w : World) (hR : R32 g N (2 ^ (s + 1)) T f w) (hc64 : In64 tu.1 ∧ In64 tu.2)
    (hy1 : In128 (wmul S tu).1) (hy2 : In128 (-(wmul S tu).2)) (k : Nat) (hk : k < 2 ^ s) :
    Calls Tryd.prog 67 #[.slice (some ⟨g, 0, none⟩) (2 ^ (s + 1)) c, .int .i64 k, bigAgg S.1 S.2, pairAgg tu] w fun e w' => e = .returned (.tuple #[]) ∧ Upd g w w' ∧
      R32 g N (2 ^ (s + 1)) T (updI (updI f (2 * k) (clamp32 (rnd (dctSh s) (wmul S tu).1))) (2 ^ (s + 1) - 1 - 2 * k) (clamp32 (rnd (dctSh s) (-(wmul S tu).2)))) w' := by
  have hsh : dctSh s = 12 * (s + 2) := rfl
  have hS := fun w => shift_any s h1 h2 w
  obtain ⟨n, hn⟩ : ∃ n : Nat, 2 ^ (s + 1) = n := ⟨_, rfl⟩
  have hnh : n = 2 ^ s + 2 ^ s := by rw [← hn, Nat.pow_succ]; omega
  have hn8 : 8 ≤ n ∧ n ≤ 32 := by
    rcases dct_s s h1 h2 with rfl | rfl | rfl <;> (rw [← hn]; decide)
  rw [hn] at hS hR ⊢
  obtain ⟨e, he⟩ : ∃ e : Nat, 2 * k = e := ⟨_, rfl⟩
  obtain ⟨o, ho⟩ : ∃ o : Nat, n - 1 - e = o := ⟨_, rfl⟩
  rw [he, ho]
  have hen : e < n := by omega
  have hon : o < n := by omega
  have hke : 2 * (k : Int) = (e : Int) := by omega
  have hoe : (n : Int) - 1 - (e : Int) = (o : Int) := by omega
  obtain ⟨S1, S2⟩ := S
  obtain ⟨t1, t2⟩ := tu
  have hbt := fun w => bigTimes_any S1 S2 t1 t2 hc64.1 hc64.2 w
  obtain ⟨y1, hy1e⟩ : ∃ y, (wmul (S1, S2) (t1, t2)).1 = y := ⟨_, rfl⟩
  obtain ⟨y2, hy2e⟩ : ∃ y, (wmul (S1, S2) (t1, t2)).2 = y := ⟨_, rfl⟩
  rw [show S1 * t1 - S2 * t2 = y1 from hy1e, show S1 * t2 + S2 * t1 = y2 from hy2e] at hbt
  rw [hy1e] at hy1 ⊢
  rw [hy2e] at hy2 ⊢
  obtain ⟨sh, hshe⟩ : ∃ sh, dctSh s = sh := ⟨_, rfl⟩
  rw [hshe] at hS hsh ⊢
  have r1 := fun w => round_any y1 hy1 sh (by omega) (by omega) w
  have r2 := fun w => round_any (-y2) hy2 sh (by omega) (by omega) w
  have s1 := fun w => sat_any (rnd sh y1) (rnd_in sh (by omega) hy1) w
  have s2 := fun w => sat_any (rnd sh (-y2)) (rnd_in sh (by omega) hy2) w
  have n2 := fun w => neg_any y2 w
  have ci1 := clamp_i32 (rnd sh y1)
  have ci2 := clamp_i32 (rnd sh (-y2))
  generalize hv1 : clamp32 (rnd sh y1) = v1 at *
  generalize hv2 : clamp32 (rnd sh (-y2)) = v2 at *
  generalize rnd sh y1 = q1 at *
  generalize rnd sh (-y2) = q2 at *
  generalize -y2 = m2 at *
  unfold bigAgg pairAgg at hbt ⊢
  unfold accAgg at r1 r2 s1 s2 n2
  have HBT := Lib.hid hbt
  have HS := Lib.hid hS
  have HR1 := Lib.hid r1
  have HR2 := Lib.hid r2
  have HS1 := Lib.hid s1
  have HS2 := Lib.hid s2
  have HN2 := Lib.hid n2
  have HR := Lib.hid hR
  have he0 : (0 : Int) ≤ e := by omega
  have ho0 : (0 : Int) ≤ o := by omega
  have hen' : (e : Int) < n := by omega
  have hon' : (o : Int) < n := by omega
  have w1 : (((e : Int)) + 9223372036854775808) % 18446744073709551616 - 9223372036854775808 = (e : Int) := by omega
  have w2 : (((n : Int) - 1) + 9223372036854775808) % 18446744073709551616 - 9223372036854775808 = (n : Int) - 1 := by omega
  have w3 : (((o : Int)) + 9223372036854775808) % 18446744073709551616 - 9223372036854775808 = (o : Int) := by omega
  clear hy1 hy2 hy1e hy2e hbt hS r1 r2 s1 s2 n2 hR hc64 hsh hshe hn hnh hv1 hv2 he ho
  go_enter Tryd.func67, Tryd.ntmps67
  go_upto_region 3 with (go_at_call 102; refine (HBT.out _).mono ?_; rintro e w1 ⟨rfl, hb1⟩; have HB1 := Lib.hid (show Below w.heap.size w w1 from Below.trans (by (repeat' (first | (with_reducible exact Below.refl _ _) | (with_reducible assumption) | (with_reducible refine Below.alloc ?_ ?_ _) | (with_reducible refine below_grew ?_ ?_ _) | (with_reducible refine Below.setCell ?_ ?_ _) | (with_reducible refine Below.drew ?_) | (with_reducible refine below_drewN ?_ _) | omega | (simp; done) | (simp; omega)))) (hb1.mono (by simp; omega))); clear hb1)
  refine cut_world (fun Z => Below w.heap.size w Z ∧ Z.heap[w1.heap.size]? = some (.cells #[.int .i64 (accHi y1), .int .u64 (accLo y1), .int .i64 (accHi y2), .int .u64 (accLo y2)] BigT (0, 0))) ⟨by have := HB1.out; have := HB1.out.size; (repeat' (first | (with_reducible exact Below.refl _ _) | (with_reducible assumption) | (with_reducible refine Below.alloc ?_ ?_ _) | (with_reducible refine below_grew ?_ ?_ _) | (with_reducible refine Below.setCell ?_ ?_ _) | (with_reducible refine Below.drew ?_) | (with_reducible refine below_drewN ?_ _) | omega | (simp; done) | (simp; omega))), alloc_at _ _⟩ ?_
  have hyw : w.heap.size ≤ w1.heap.size := HB1.out.size
  clear HB1
  generalize w1.heap.size = yb at *
  rintro Z ⟨hbZ, hcZ⟩
  have HBZ := Lib.hid hbZ
  have hRZ := HR.out.block (hbZ.block g HR.out.lt)
  have HRZ := Lib.hid hRZ
  have hgy : g < yb := Nat.lt_of_lt_of_le HR.out.lt hyw
  obtain ⟨k1, k2, hyl⟩ := block_facts hcZ
  have y0 := k1 0
  have yy1 := k1 1
  have yy2 := k1 2
  have yy3 := k1 3
  simp only [List.getElem?_toArray, List.getElem?_cons_zero, List.getElem?_cons_succ] at y0 yy1 yy2 yy3
  have HCZ := Lib.hid hcZ
  have hgl := hRZ.lt
  clear k1 k2 hbZ hcZ hRZ HBT HR
  refine wp_region_inv [] (fun W => Below Z.heap.size Z W) (fun W W' => Below W.heap.size W W') 10 (by kernel_rfl) (by kernel_rfl) (by kernel_rfl) ((Below.refl _ _).drew) (fun W W' h h' => h.trans (h'.mono h.size)) (fun _ _ h => h.size) ?_
  simp only [List.take_succ_cons, List.take_zero, List.drop_succ_cons, List.drop_zero]
  refine wpInv_det (by kernel_rfl) (by kernel_rfl) ?_
  apply Exists.intro
  refine ⟨?_, ?_, ?_⟩
  · intro U W hC hH
    have hc1 := (bcell hC).1
    have hf1 := (bcell hC).2
    simp only [HypsU, predsOf, Region.binds, List.filterMap_cons, List.filterMap_nil, if_true, List.nil_append, List.cons_append, List.getD_cons_zero, List.getD_cons_succ] at hH
    simp only [fillPuts, Act.put, List.setIfInBounds_toArray, List.set_cons_zero, List.set_cons_succ, Nat.reduceAdd]
    go_wp2_with fail
    refine ⟨rfl, rfl, by (repeat' (first | (with_reducible exact Below.refl _ _) | (with_reducible assumption) | (with_reducible refine Below.alloc ?_ ?_ _) | (with_reducible refine below_grew ?_ ?_ _) | (with_reducible refine Below.setCell ?_ ?_ _) | (with_reducible refine Below.drew ?_) | (with_reducible refine below_drewN ?_ _) | omega | (simp; done) | (simp; omega))), ?_⟩
    conv => lhs; whnf
    try rfl
  · exact fun _ => rfl
  simp only [List.nil_append, List.cons_append, Nat.reduceAdd]
  refine wpInv_det (by kernel_rfl) (by kernel_rfl) ?_
  apply Exists.intro
  refine ⟨?_, ?_, ?_⟩
  · intro U W hC hH
    have hc1 := (bcell hC).1
    have hf1 := (bcell hC).2
    simp only [HypsU, predsOf, Region.binds, List.filterMap_cons, List.filterMap_nil, if_true, List.nil_append, List.cons_append, List.getD_cons_zero, List.getD_cons_succ] at hH
    simp only [fillPuts, Act.put, List.setIfInBounds_toArray, List.set_cons_zero, List.set_cons_succ, Nat.reduceAdd]
    go_wp2_with fail
    refine ⟨rfl, rfl, by (repeat' (first | (with_reducible exact Below.refl _ _) | (with_reducible assumption) | (with_reducible refine Below.alloc ?_ ?_ _) | (with_reducible refine below_grew ?_ ?_ _) | (with_reducible refine Below.setCell ?_ ?_ _) | (with_reducible refine Below.drew ?_) | (with_reducible refine below_drewN ?_ _) | omega | (simp; done) | (simp; omega))), ?_⟩
    conv => lhs; whnf
    try rfl
  · exact fun _ => rfl
  simp only [List.nil_append, List.cons_append, Nat.reduceAdd]
  refine wpInv_det (by kernel_rfl) (by kernel_rfl) ?_
  apply Exists.intro
  refine ⟨?_, ?_, ?_⟩
  · intro U W hC hH
    have hc1 := (bcell hC).1
    have hf1 := (bcell hC).2
    simp only [HypsU, predsOf, Region.binds, List.filterMap_cons, List.filterMap_nil, if_true, List.nil_append, List.cons_append, List.getD_cons_zero, List.getD_cons_succ] at hH
    simp only [fillPuts, Act.put, List.setIfInBounds_toArray, List.set_cons_zero, List.set_cons_succ, Nat.reduceAdd]
    go_wp2_with fail
    refine ⟨rfl, rfl, by (repeat' (first | (with_reducible exact Below.refl _ _) | (with_reducible assumption) | (with_reducible refine Below.alloc ?_ ?_ _) | (with_reducible refine below_grew ?_ ?_ _) | (with_reducible refine Below.setCell ?_ ?_ _) | (with_reducible refine Below.drew ?_) | (with_reducible refine below_drewN ?_ _) | omega | (simp; done) | (simp; omega))), ?_⟩
    conv => lhs; whnf
    try rfl
  · exact fun _ => rfl
  simp only [List.nil_append, List.cons_append, Nat.reduceAdd]
  refine wpInv_det (by kernel_rfl) (by kernel_rfl) ?_
  apply Exists.intro
  refine ⟨?_, ?_, ?_⟩
  · intro U W hC hH
    have hc1 := (bcell hC).1
    have hf1 := (bcell hC).2
    simp only [HypsU, predsOf, Region.binds, List.filterMap_cons, List.filterMap_nil, if_true, List.nil_append, List.cons_append, List.getD_cons_zero, List.getD_cons_succ] at hH
    simp only [fillPuts, Act.put, List.setIfInBounds_toArray, List.set_cons_zero, List.set_cons_succ, Nat.reduceAdd]
    go_wp2_with fail
    refine ⟨rfl, rfl, by (repeat' (first | (with_reducible exact Below.refl _ _) | (with_reducible assumption) | (with_reducible refine Below.alloc ?_ ?_ _) | (with_reducible refine below_grew ?_ ?_ _) | (with_reducible refine Below.setCell ?_ ?_ _) | (with_reducible refine Below.drew ?_) | (with_reducible refine below_drewN ?_ _) | omega | (simp; done) | (simp; omega))), ?_⟩
    conv => lhs; whnf
    try rfl
  · exact fun _ => rfl
  simp only [List.nil_append, List.cons_append, Nat.reduceAdd]
  refine wpInv_det (by kernel_rfl) (by kernel_rfl) ?_
  apply Exists.intro
  refine ⟨?_, ?_, ?_⟩
  · intro U W hC hH
    have hc1 := (bcell hC).1
    have hf1 := (bcell hC).2
    simp only [HypsU, predsOf, Region.binds, List.filterMap_cons, List.filterMap_nil, if_true, List.nil_append, List.cons_append, List.getD_cons_zero, List.getD_cons_succ] at hH
    simp only [fillPuts, Act.put, List.setIfInBounds_toArray, List.set_cons_zero, List.set_cons_succ, Nat.reduceAdd]
    go_wp2_with fail
    refine ⟨rfl, rfl, by (repeat' (first | (with_reducible exact Below.refl _ _) | (with_reducible assumption) | (with_reducible refine Below.alloc ?_ ?_ _) | (with_reducible refine below_grew ?_ ?_ _) | (with_reducible refine Below.setCell ?_ ?_ _) | (with_reducible refine Below.drew ?_) | (with_reducible refine below_drewN ?_ _) | omega | (simp; done) | (simp; omega))), ?_⟩
    conv => lhs; whnf
    try rfl
  · exact fun _ => rfl
  simp only [List.nil_append, List.cons_append, Nat.reduceAdd]
  refine wpInv_det (by kernel_rfl) (by kernel_rfl) ?_
  apply Exists.intro
  refine ⟨?_, ?_, ?_⟩
  · intro U W hC hH
    have hc1 := (bcell hC).1
    have hf1 := (bcell hC).2
    simp only [HypsU, predsOf, Region.binds, List.filterMap_cons, List.filterMap_nil, if_true, List.nil_append, List.cons_append, List.getD_cons_zero, List.getD_cons_succ] at hH
    simp only [fillPuts, Act.put, List.setIfInBounds_toArray, List.set_cons_zero, List.set_cons_succ, Nat.reduceAdd]
    go_wp2_with fail
    refine ⟨rfl, rfl, by (repeat' (first | (with_reducible exact Below.refl _ _) | (with_reducible assumption) | (with_reducible refine Below.alloc ?_ ?_ _) | (with_reducible refine below_grew ?_ ?_ _) | (with_reducible refine Below.setCell ?_ ?_ _) | (with_reducible refine Below.drew ?_) | (with_reducible refine below_drewN ?_ _) | omega | (simp; done) | (simp; omega))), ?_⟩
    conv => lhs; whnf
    try rfl
  · exact fun _ => rfl
  simp only [List.nil_append, List.cons_append, Nat.reduceAdd]
  refine wpInv_det (by kernel_rfl) (by kernel_rfl) ?_
  apply Exists.intro
  refine ⟨?_, ?_, ?_⟩
  · intro U W hC hH
    have hc1 := (bcell hC).1
    have hf1 := (bcell hC).2
    simp only [HypsU, predsOf, Region.binds, List.filterMap_cons, List.filterMap_nil, if_true, List.nil_append, List.cons_append, List.getD_cons_zero, List.getD_cons_succ] at hH
    simp only [fillPuts, Act.put, List.setIfInBounds_toArray, List.set_cons_zero, List.set_cons_succ, Nat.reduceAdd]
    go_wp2_with fail; refine (HS.out _).mono ?_; rintro e w' ⟨rfl, rfl⟩; go_wp2_with fail
    refine ⟨rfl, rfl, by (repeat' (first | (with_reducible exact Below.refl _ _) | (with_reducible assumption) | (with_reducible refine Below.alloc ?_ ?_ _) | (with_reducible refine below_grew ?_ ?_ _) | (with_reducible refine Below.setCell ?_ ?_ _) | (with_reducible refine Below.drew ?_) | (with_reducible refine below_drewN ?_ _) | omega | (simp; done) | (simp; omega))), ?_⟩
    conv => lhs; whnf
    try rfl
  · exact fun _ => rfl
  simp only [List.nil_append, List.cons_append, Nat.reduceAdd]
  refine wpInv_det (by kernel_rfl) (by kernel_rfl) ?_
  apply Exists.intro
  refine ⟨?_, ?_, ?_⟩
  · intro U W hC hH
    have hc1 := (bcell hC).1
    have hf1 := (bcell hC).2
    simp only [HypsU, predsOf, Region.binds, List.filterMap_cons, List.filterMap_nil, if_true, List.nil_append, List.cons_append, List.getD_cons_zero, List.getD_cons_succ] at hH
    simp only [fillPuts, Act.put, List.setIfInBounds_toArray, List.set_cons_zero, List.set_cons_succ, Nat.reduceAdd]
    go_wp2_with fail; refine (HR1.out _).mono ?_; rintro e w' ⟨rfl, hb1⟩; obtain ⟨x1, rfl⟩ := below_as_grew hb1; clear hb1; go_wp2_with fail
    refine ⟨rfl, rfl, by (repeat' (first | (with_reducible exact Below.refl _ _) | (with_reducible assumption) | (with_reducible refine Below.alloc ?_ ?_ _) | (with_reducible refine below_grew ?_ ?_ _) | (with_reducible refine Below.setCell ?_ ?_ _) | (with_reducible refine Below.drew ?_) | (with_reducible refine below_drewN ?_ _) | omega | (simp; done) | (simp; omega))), ?_⟩
    conv => lhs; whnf
    try rfl
  · exact fun _ => rfl
  simp only [List.nil_append, List.cons_append, Nat.reduceAdd]
  refine wpInv_det (by kernel_rfl) (by kernel_rfl) ?_
  apply Exists.intro
  refine ⟨?_, ?_, ?_⟩
  · intro U W hC hH
    have hc1 := (bcell hC).1
    have hf1 := (bcell hC).2
    simp only [HypsU, predsOf, Region.binds, List.filterMap_cons, List.filterMap_nil, if_true, List.nil_append, List.cons_append, List.getD_cons_zero, List.getD_cons_succ] at hH
    simp only [fillPuts, Act.put, List.setIfInBounds_toArray, List.set_cons_zero, List.set_cons_succ, Nat.reduceAdd]
    go_wp2_with fail; refine (HS1.out _).mono ?_; rintro e w' ⟨rfl, hb1⟩; obtain ⟨x1, rfl⟩ := below_as_grew hb1; clear hb1; go_wp2_with fail
    refine ⟨rfl, rfl, by (repeat' (first | (with_reducible exact Below.refl _ _) | (with_reducible assumption) | (with_reducible refine Below.alloc ?_ ?_ _) | (with_reducible refine below_grew ?_ ?_ _) | (with_reducible refine Below.setCell ?_ ?_ _) | (with_reducible refine Below.drew ?_) | (with_reducible refine below_drewN ?_ _) | omega | (simp; done) | (simp; omega))), ?_⟩
    conv => lhs; whnf
    try rfl
  · exact fun _ => rfl
  simp only [List.nil_append, List.cons_append, Nat.reduceAdd]
  refine wpInv_det (by kernel_rfl) (by kernel_rfl) ?_
  apply Exists.intro
  refine ⟨?_, ?_, ?_⟩
  · intro U W hC hH
    have hc1 := (bcell hC).1
    have hf1 := (bcell hC).2
    simp only [HypsU, predsOf, Region.binds, List.filterMap_cons, List.filterMap_nil, if_true, List.nil_append, List.cons_append, List.getD_cons_zero, List.getD_cons_succ] at hH
    simp only [fillPuts, Act.put, List.setIfInBounds_toArray, List.set_cons_zero, List.set_cons_succ, Nat.reduceAdd]
    go_wp2_with fail
    refine ⟨rfl, rfl, by (repeat' (first | (with_reducible exact Below.refl _ _) | (with_reducible assumption) | (with_reducible refine Below.alloc ?_ ?_ _) | (with_reducible refine below_grew ?_ ?_ _) | (with_reducible refine Below.setCell ?_ ?_ _) | (with_reducible refine Below.drew ?_) | (with_reducible refine below_drewN ?_ _) | omega | (simp; done) | (simp; omega))), ?_⟩
    conv => lhs; whnf
    try rfl
  · exact fun _ => rfl
  simp only [List.nil_append, List.cons_append, Nat.reduceAdd]
  simp only [List.nil_append, List.cons_append, Nat.reduceAdd, fillPuts, Act.put, List.setIfInBounds_toArray, List.set_cons_zero, List.set_cons_succ]
  rintro U W hC ⟨h0, h1, h2, h3, h4, h5, h6, h7, h8, h9, -⟩ -
  simp only [h0, h1, h2, h3, h4, h5, h6, h7, h8, h9]
  clear h0 h1 h2 h3 h4 h5 h6 h7 h8 h9 y0 yy1 yy2 yy3
  have hRW := HRZ.out.keep hC
  obtain ⟨c0, f0⟩ := hRW.cell e hen
  have hq := hRW.set e v1
  have HQ := Lib.hid hq
  have hUW := (Upd.of_below (g := g) (HBZ.out)).trans ((Upd.of_below hC).trans (Upd.of_only (only_setCell W ⟨g, e, none⟩ (.int .i32 v1))))
  have HUW := Lib.hid hUW
  have hgl2 := hRW.lt
  have hcy : (W.setCell ⟨g, e, none⟩ (.int .i32 v1)).heap[yb]? = some (.cells #[.int .i64 (accHi y1), .int .u64 (accLo y1), .int .i64 (accHi y2), .int .u64 (accLo y2)] BigT (0, 0)) :=
    ((only_setCell W ⟨g, e, none⟩ (.int .i32 v1)).block yb (by show yb ≠ g; omega)).trans ((hC.block yb (block_facts HCZ.out).2.2).trans HCZ.out)
  have HCY := Lib.hid hcy
  clear hq hUW hRW hcy hC
  go_upto_region 4 with fail
  refine cut_world (fun Y => Upd g w Y ∧ R32 g N n T (updI f e v1) Y ∧ Y.heap[yb]? = some (.cells #[.int .i64 (accHi y1), .int .u64 (accLo y1), .int .i64 (accHi y2), .int .u64 (accLo y2)] BigT (0, 0))) ⟨HUW.out, HQ.out, HCY.out⟩ ?_
  clear HQ HUW HCY HRZ HBZ HCZ c0 f0 hgl2 hgl hyl
  clear W Z
  rintro Y ⟨hu, hRY, hcY⟩
  obtain ⟨k1, k2, hyl⟩ := block_facts hcY
  have y0 := k1 0
  have yy1 := k1 1
  have yy2 := k1 2
  have yy3 := k1 3
  simp only [List.getElem?_toArray, List.getElem?_cons_zero, List.getElem?_cons_succ] at y0 yy1 yy2 yy3
  have HUY := Lib.hid hu
  have HRY := Lib.hid hRY
  clear k1 k2 hu hRY hcY
  go_wp2_with fail
  refine (HN2.out _).mono ?_
  rintro e w2 ⟨rfl, hb2⟩
  have HB2 := Lib.hid hb2
  clear hb2
  go_wp2_with fail
  refine (HS.out _).mono ?_
  rintro e w3 ⟨rfl, rfl⟩
  go_wp2_with fail
  refine (HR2.out _).mono ?_
  rintro e w3 ⟨rfl, hb3⟩
  have HB3 := Lib.hid (HB2.out.trans (hb3.mono HB2.out.size))
  clear hb3
  go_wp2_with fail
  refine (HS2.out _).mono ?_
  rintro e w4 ⟨rfl, hb4⟩
  have HB4 := Lib.hid (HB3.out.trans (hb4.mono HB3.out.size))
  clear hb4
  have hRW := HRY.out.keep HB4.out
  obtain ⟨c0, f0⟩ := hRW.cell o hon
  have hq := hRW.set o v2
  have HQ := Lib.hid hq
  have hUW := HUY.out.trans ((Upd.of_below HB4.out).trans (Upd.of_only (only_setCell w4 ⟨g, o, none⟩ (.int .i32 v2))))
  have HUW := Lib.hid hUW
  have hgl2 := hRW.lt
  clear hq hUW hRW
  go_wp2_with fail
  go_end0
  exact ⟨rfl, HUW.out, HQ.out⟩
end Go.Proofs.YtcibajleknhklaaDoor
end

section
namespace Go.Proofs.YtcibajleknhklaaDoor
open Go.RowKit Go.BigFrame Go.Proofs.YtcibajleknhklaaDoorW.PrintWords Go.Proofs.YtcibajleknhklaaDoorW.PrintLast Go.Proofs.YtcibajleknhklaaDoorW.PrintMore
set_option linter.unusedSimpArgs false
set_option linter.unusedVariables false
theorem dctPair_small (n : Nat) (x : Nat → Int) (j : Nat) (h : ∀ i, -2147483648 ≤ x i ∧ x i ≤ 2147483647) : small 17592186044416 (dctPair n x j) := by
  have := wmul_small (b := 2147483648) (c := 4096) (p := (x (2 * j), x (n - 1 - 2 * j))) (q := turnF (((4 * j + 1) * 32 / n : Nat) : Int)) (by have := h (2 * j); have := h (n - 1 - 2 * j); unfold small; simp only; omega) (turnF_small _)
  unfold dctPair
  exact this
theorem sumTo_small (s : Nat) (hs : s ≤ 4) (l : List (Int × Int)) (k : Nat) : ∀ m : Nat, m ≤ 16 → (∀ j, j < m → small 17592186044416 (l.getD j (0, 0))) → small ((m : Int) * 158456325028528675187087900672) (sumTo s l k m)
  | 0, _, _ => by unfold sumTo small; simp
  | m + 1, hm, h => by
    have ih := sumTo_small s hs l k m (by omega) (fun j hj => h j (by omega))
    have ht := wmul_small (h m (by omega)) (weightF_small s hs m k)
    rw [sumTo]
    unfold small at ih ⊢
    unfold term
    unfold small at ht
    obtain ⟨a1, a2, a3, a4⟩ := ih
    obtain ⟨b1, b2, b3, b4⟩ := ht
    refine ⟨?_, ?_, ?_, ?_⟩ <;> simp only <;> omega
theorem dctZ_len (s : Nat) (x : Nat → Int) : (dctZ s x).length = 2 ^ s := by simp [dctZ]
theorem dctZ_at (s : Nat) (x : Nat → Int) (j : Nat) (h : j < 2 ^ s) : (dctZ s x).getD j (0, 0) = dctPair (2 ^ (s + 1)) x j := by
  simp [dctZ, List.getD_eq_getElem?_getD, h]
theorem dctY_in (s : Nat) (h1 : 2 ≤ s) (h2 : s ≤ 4) (x : Nat → Int) (k : Nat) (h : ∀ i, -2147483648 ≤ x i ∧ x i ≤ 2147483647) : In128 (dctY s x k).1 ∧ In128 (-(dctY s x k).2) := by
  have hs16 : 2 ^ s ≤ 16 := by rcases dct_s s h1 h2 with rfl | rfl | rfl <;> decide
  have a := sumTo_small s h2 (dctZ s x) k (2 ^ s) hs16 (fun j hj => by rw [dctZ_at s x j hj]; exact dctPair_small _ x j h)
  have a' : small (16 * 158456325028528675187087900672) (sumTo s (dctZ s x) k (2 ^ s)) := by
    unfold small at a ⊢
    generalize 2 ^ s = m at *
    omega
  have b := wmul_small a' (turnF_small ((k * 128 / 2 ^ (s + 1) : Nat) : Int))
  unfold dctY
  unfold small at b
  unfold In128
  omega
theorem zrow (n : Nat) (x : Nat → Int) (k : Nat) : (((List.range (k + 1)).map (dctPair n x)).flatMap pairCells) = (((List.range k).map (dctPair n x)).flatMap pairCells) ++ [.int .i64 (dctPair n x k).1, .int .i64 (dctPair n x k).2] := by
  simp [List.range_succ, pairCells]
theorem zrow_at (F : Nat → Int × Int) : ∀ n j i, j < n → i < 2 → (((List.range n).map F).flatMap pairCells)[j * 2 + i]? = (pairCells (F j))[i]?
  | 0, j, i, h, _ => absurd h (by omega)
  | n + 1, j, i, h, hi => by
    have hl : ∀ m, (((List.range m).map F).flatMap pairCells).length = m * 2 := fun m => by
      induction m with
      | zero => rfl
      | succ m ih => rw [List.range_succ, List.map_append, List.flatMap_append, List.length_append, ih]; simp [pairCells]; omega
    rw [List.range_succ, List.map_append, List.flatMap_append]
    by_cases e : j < n
    · rw [List.getElem?_append_left (by rw [hl]; omega)]
      exact zrow_at F n j i e hi
    · obtain rfl : j = n := by omega
      rw [List.getElem?_append_right (by rw [hl]; omega), hl]
      simp [show j * 2 + i - j * 2 = i by omega]
/-- The direct sum of a list that lies in a row. -/
theorem direct_list (t : Nat) (ht : t ≤ 4) (l : List (Int × Int)) (n : Nat) (hn : 2 ^ t = n) (hl : l.length = n) (h64 : ∀ j, j < n → In64 (l.getD j (0, 0)).1 ∧ In64 (l.getD j (0, 0)).2) (zb zc : Nat) (w : World) (hT : CosW w) (hzl : zb < w.heap.size)
    (hz : ∀ j, j < n → w.cell? ⟨zb, j * 2, none⟩ = some (.int .i64 (l.getD j (0, 0)).1) ∧ w.cell? ⟨zb, j * 2 + 1, none⟩ = some (.int .i64 (l.getD j (0, 0)).2)) :
    Calls Tryd.prog 26 #[.slice (some ⟨zb, 0, none⟩) n zc] w fun e w' => ∃ db dc, e = .returned (.slice (some ⟨db, 0, none⟩) n dc) ∧ w.heap.size ≤ db ∧ db < w'.heap.size ∧ (∀ j, j < n → ∀ i u, (bigCells (sumTo t l j n))[i]? = some u → w'.cell? ⟨db, j * 4 + i, none⟩ = some u) ∧ Below w.heap.size w w' := by
  have hd := direct_yes t ht l (by rw [hl, hn]) (fun j hj => h64 j (by omega)) zb 0 zc w hT hzl (fun j hj => by rw [Nat.zero_add]; exact hz j (by omega))
  rw [hl] at hd
  have hn0 : 0 < n := by rw [← hn]; exact Nat.pow_pos (by decide)
  refine hd.mono ?_
  rintro e w' ⟨v, rfl, ho, hb⟩
  obtain ⟨db, dc, rfl, h1, h0, h3⟩ := own_cells ho hn0
  refine ⟨db, dc, rfl, h0, h1, fun j hj i u hu => ?_, hb⟩
  have hi : i < 4 := (List.getElem?_eq_some_iff.1 hu).1
  rw [h3 (j * 4 + i) (by omega), ← hu]
  unfold directF
  rw [hl, bigs_at _ n j i hj hi]
/-- The first k sums have been put. -/
def putTo (s : Nat) (x : Nat → Int) (k : Nat) (i : Nat) : Int := if i % 2 = 0 then (if i / 2 < k then dctF s x i else 0) else (if (2 ^ (s + 1) - 1 - i) / 2 < k then dctF s x i else 0)
theorem putTo_step (s : Nat) (x : Nat → Int) (k : Nat) (hk : k < 2 ^ s) (i : Nat) (hi : i < 2 ^ (s + 1)) :
    updI (updI (putTo s x k) (2 * k) (clamp32 (rnd (dctSh s) (dctY s x k).1))) (2 ^ (s + 1) - 1 - 2 * k) (clamp32 (rnd (dctSh s) (-(dctY s x k).2))) i = putTo s x (k + 1) i := by
  have hn : 2 ^ (s + 1) = 2 ^ s + 2 ^ s := by rw [Nat.pow_succ]; omega
  have hev : 2 ^ s % 2 = 0 ∨ 2 ^ s = 1 := by
    rcases Nat.eq_zero_or_pos s with e | e
    · subst e; exact .inr rfl
    · left
      obtain ⟨t, rfl⟩ : ∃ t, s = t + 1 := ⟨s - 1, by omega⟩
      rw [Nat.pow_succ]; omega
  unfold updI
  by_cases a : i = 2 ^ (s + 1) - 1 - 2 * k
  · rw [if_pos a]
    unfold putTo dctF
    rw [if_neg (by omega), if_pos (by omega), if_neg (by omega), show (2 ^ (s + 1) - 1 - i) / 2 = k from by omega]
  · rw [if_neg a]
    by_cases b : i = 2 * k
    · rw [if_pos b]
      unfold putTo dctF
      rw [if_pos (by omega), if_pos (by omega), if_pos (by omega), show i / 2 = k from by omega]
    · rw [if_neg b]
      unfold putTo
      by_cases c : i % 2 = 0
      · rw [if_pos c, if_pos c]
        by_cases d : i / 2 < k
        · rw [if_pos d, if_pos (by omega)]
        · rw [if_neg d, if_neg (by omega)]
      · rw [if_neg c, if_neg c]
        by_cases d : (2 ^ (s + 1) - 1 - i) / 2 < k
        · rw [if_pos d, if_pos (by omega)]
        · rw [if_neg d, if_neg (by omega)]
theorem putTo_all (s : Nat) (x : Nat → Int) (i : Nat) (hi : i < 2 ^ (s + 1)) : putTo s x (2 ^ s) i = dctF s x i := by
  have hn : 2 ^ (s + 1) = 2 ^ s + 2 ^ s := by rw [Nat.pow_succ]; omega
  unfold putTo
  by_cases c : i % 2 = 0
  · rw [if_pos c, if_pos (by omega)]
  · rw [if_neg c, if_pos (by omega)]
theorem i32_zero (i : Nat) : (Value.int .i32 0).cells[i % (Value.int .i32 0).cells.size]! = .int ((fun _ : Nat => IntKind.i32) i) 0 := by
  show (#[Value.int .i32 0] : Array Value)[i % 1]! = .int .i32 0
  rw [Nat.mod_one]; rfl
set_option maxHeartbeats 4000000 in
set_option maxRecDepth 100000 in
theorem dctPlain_any (s : Nat) (h1 : 2 ≤ s) (h2 : s ≤ 4) (b off c : Nat) (x : Nat → Int) (w : World) (hT : CosW w) (hb : b < w.heap.size)
    (hx : ∀ i, i < 2 ^ (s + 1) → w.cell? ⟨b, off + i, none⟩ = some (.int .i32 (x i))) (hx32 : ∀ i, -2147483648 ≤ x i ∧ x i ≤ 2147483647) :
    Calls Tryd.prog 25 #[.slice (some ⟨b, off, none⟩) (2 ^ (s + 1)) c] w fun e w' => ∃ g, e = .returned (.slice (some ⟨g, 0, none⟩) (2 ^ (s + 1)) (2 ^ (s + 1))) ∧ w.heap.size ≤ g ∧
      Bx g 21 (fun _ => .i32) (2 ^ (s + 1)) (dctF s x) w' ∧ Below w.heap.size w w' := by
  have hth := fun w => there_dct s h1 h2 w
  have hpa := fun w hT hb hx j hj => pair_any s h1 h2 b off c x w hT hb hx j hj
  have hput := fun g f S tu w hR h64 hy1 hy2 k hk => put_any s h1 h2 g (2 ^ (s + 1)) (2 ^ (s + 1)) 21 f S tu w hR h64 hy1 hy2 k hk
  have hpt := putTo_step s x
  have hpl := putTo_all s x
  have hyin := fun k => dctY_in s h1 h2 x k hx32
  have hlist := fun zb zc w hT hzl hz => direct_list s h2 (dctZ s x) (2 ^ s) rfl (dctZ_len s x) (fun j hj => by
    rw [dctZ_at s x j hj]
    have := dctPair_small (2 ^ (s + 1)) x j hx32
    unfold small at this
    unfold In64
    omega) zb zc w hT hzl hz
  have hza := dctZ_at s x
  have hyd : ∀ k, dctY s x k = wmul (sumTo s (dctZ s x) k (2 ^ s)) (turnF ((k * 128 / 2 ^ (s + 1) : Nat) : Int)) := fun k => rfl
  obtain ⟨n, hn⟩ : ∃ n : Nat, 2 ^ (s + 1) = n := ⟨_, rfl⟩
  obtain ⟨h, hh⟩ : ∃ h : Nat, 2 ^ s = h := ⟨_, rfl⟩
  have hnh : n = h + h := by rw [← hn, ← hh, Nat.pow_succ]; omega
  have hn8 : 8 ≤ n ∧ n ≤ 32 := by
    rcases dct_s s h1 h2 with rfl | rfl | rfl <;> (rw [← hn]; decide)
  rw [hn] at hx hth hpa hput hpt hpl hza ⊢
  rw [hh] at hpa hput hpt hpl hlist hza
  simp only [hn, hh] at hyd
  unfold pairAgg at hpa hput
  unfold bigAgg at hput
  have tu := turn_any
  unfold pairAgg at tu
  have HTH := Lib.hid hth
  have HPA := Lib.hid hpa
  have HPU := Lib.hid hput
  have HPT := Lib.hid hpt
  have HPL := Lib.hid hpl
  have HYI := Lib.hid hyin
  have HLI := Lib.hid hlist
  have HZA := Lib.hid hza
  have HYD := Lib.hid hyd
  have HTU := Lib.hid tu
  have HC := Lib.hid hT
  have HX := Lib.hid (fun i hi => And.intro (hx i hi) (hx32 i))
  have hdiv : (n : Int) / 2 = (h : Int) := by omega
  have HDIV := Lib.hid hdiv
  have HNH := Lib.hid hnh
  have hh2 : h ≤ 16 ∧ 4 ≤ h := by omega
  clear hnh hth hpa hput hpt hpl hyin hlist hza hyd tu hT hx hx32 hn hh hdiv
  go_enter Tryd.func25, Tryd.ntmps25
  go_wp2_with fail
  refine (HTH.out _).mono ?_
  rintro e w1 ⟨rfl, hb1⟩
  have HB1 := Lib.hid hb1
  clear hb1
  go_wp2_with fail
  rw [HDIV.out]
  go_loopw [16, 4] (fun cnt v wr => ∃ k : Nat, k ≤ h ∧ cnt = .int .i64 k ∧ wr.ownsRow w.heap.size 49 2 v k (((List.range k).map (dctPair n x)).flatMap pairCells) ∧ Below w.heap.size w wr) (fun cnt _ _ => h - (intOf cnt).toNat)
  case atStart => exact ⟨0, by omega, rfl, World.ownsRow_nil _ _ _ _, HB1.out⟩
  case round =>
    clear HB1
    obtain ⟨k, hk, rfl, hown, hbel⟩ := hrel
    obtain ⟨wo, rfl⟩ : ∃ wo : World, wo = wr := ⟨_, rfl⟩
    have HBE := Lib.hid hbel
    have HOW := Lib.hid hown
    clear hown hbel
    by_cases hlt : k < h
    · have hlt' : (k : Int) < h := by omega
      have hcall := HPA.out wo (HC.out.below HBE.out) (Nat.lt_of_lt_of_le hb HBE.out.size) (fun i hi => ⟨(cell_blk (HBE.out.block b hb) _).trans (HX.out i hi).1, (HX.out i hi).2⟩) k hlt
      have HCA := Lib.hid hcall
      clear hcall
      go_wp2_with fail
      refine HCA.out.mono ?_
      rintro e w2 ⟨rfl, hb2⟩
      have hown' := ownsRow_below HOW.out hb2
      have hB2 := HBE.out.trans (hb2.mono HBE.out.size)
      have hs2 := hB2.size
      have HB2 := Lib.hid hB2
      clear hB2 hb2
      go_wp2_with (at_builtin; refine wpList_append_one rfl _ _ 32 rfl w.heap.size 49 _ 2 16 Tryd.underlying32 pairInfo rfl (by decide) _ k _ rfl hown' _ [_, _] rfl ?hg rfl ?h1 ?h63 ?hby ?hba ?_; (case hg => rfl); (case h1 => simp [Value.oneCell']; done); (case h63 => exact maxLen_le (by omega)); (case hby => omega); (case hba => omega); intro v' w3 hown3 hbel3 _ _)
      refine ⟨⟨k + 1, by omega, by go_num, by rw [zrow]; exact hown3, HB2.out.trans hbel3⟩, by simp only [intOf]; omega⟩
    · obtain rfl : h = k := by omega
      have hlt' : ¬ (h : Int) < h := by omega
      go_wp2_with (at_make; refine make_block _ rfl _ _ _ rfl 21 (.int .i32 0) 1 4 (by kernel_rfl) (by kernel_rfl) n rfl rfl (by omega) (by omega) (fun _ => .i32) i32_zero ?_)
      obtain ⟨zb, zc, rfl, hzw, hzl⟩ := own_form HOW.out (by omega)
      have hzc : ∀ j, j < h → wo.cell? ⟨zb, j * 2, none⟩ = some (.int .i64 ((dctZ s x).getD j (0, 0)).1) ∧ wo.cell? ⟨zb, j * 2 + 1, none⟩ = some (.int .i64 ((dctZ s x).getD j (0, 0)).2) := fun j hj => by
        rw [HZA.out j hj]
        have e := fun i u hi hu => HOW.out.cells (g := zb) rfl (j * 2 + i) u ((zrow_at (dctPair n x) h j i hj hi).trans hu)
        have e0 := e 0 _ (by decide) rfl
        have e1 := e 1 _ (by decide) rfl
        rw [Addr.add_lit, Nat.zero_add] at e0 e1
        exact ⟨e0, e1⟩
      have hWb : Below wo.heap.size wo (wo.alloc (.cells (ag (fun _ => .i32) n fun _ => 0) 21)) := by (repeat' (first | (with_reducible exact Below.refl _ _) | (with_reducible assumption) | (with_reducible refine Below.alloc ?_ ?_ _) | (with_reducible refine below_grew ?_ ?_ _) | (with_reducible refine Below.setCell ?_ ?_ _) | (with_reducible refine Below.drew ?_) | (with_reducible refine below_drewN ?_ _) | omega | (simp; done) | (simp; omega)))
      have hdir := HLI.out zb zc _ (HC.out.below (HBE.out.trans (hWb.mono HBE.out.size))) (Nat.lt_of_lt_of_le hzl hWb.size) (fun j hj => ⟨(cell_blk (hWb.block zb hzl) _).trans (hzc j hj).1, (cell_blk (hWb.block zb hzl) _).trans (hzc j hj).2⟩)
      have HDIR := Lib.hid hdir
      clear hdir hzc hWb
      obtain ⟨g, hg⟩ : ∃ g, wo.heap.size = g := ⟨_, rfl⟩
      have hgw : w.heap.size ≤ g := by have := HBE.out.size; omega
      have hR0 : R32 g n n 21 (putTo s x 0) (wo.alloc (.cells (ag (fun _ => .i32) n fun _ => 0) 21)) := by
        rw [← hg]
        refine (R32.of_bx (f := fun _ => 0) (alloc_at _ _)).ext (fun i _ => ?_)
        unfold putTo
        (repeat' split) <;> first | rfl | omega
      refine HDIR.out.mono ?_
      rintro e w3 ⟨db, dc, rfl, hdg0, hdl, hd3, hb3⟩
      have hdg : db ≠ g := by simp at hdg0; omega
      clear hdg0
      have HD3 := Lib.hid hd3
      have HR3 := Lib.hid (hR0.keep hb3)
      have hW3 : Below w.heap.size w w3 := by
        have h0 : Below w.heap.size w (wo.alloc (.cells (ag (fun _ => .i32) n fun _ => 0) 21)) := by have := HBE.out; have := HBE.out.size; (repeat' (first | (with_reducible exact Below.refl _ _) | (with_reducible assumption) | (with_reducible refine Below.alloc ?_ ?_ _) | (with_reducible refine below_grew ?_ ?_ _) | (with_reducible refine Below.setCell ?_ ?_ _) | (with_reducible refine Below.drew ?_) | (with_reducible refine below_drewN ?_ _) | omega | (simp; done) | (simp; omega)))
        exact h0.trans (hb3.mono h0.size)
      have HW3 := Lib.hid hW3
      clear hd3 hR0 hb3 hW3 HDIR HOW HBE
      rw [hg]
      clear hg
      go_wp2_with fail
      go_loopw [31] (fun cnt wr => ∃ k : Nat, k ≤ h ∧ cnt = .int .i64 k ∧ R32 g n n 21 (putTo s x k) wr ∧ Upd g w3 wr) (fun cnt _ => h - (intOf cnt).toNat)
      case atStart => exact ⟨0, by omega, rfl, HR3.out, Upd.refl _ _⟩
      case round =>
        obtain ⟨k, hk, rfl, hRr, hu⟩ := hrel
        by_cases hlt : k < h
        · have hlt' : (k : Int) < h := by omega
          have hk0 : (0 : Int) ≤ k := by omega
          have hd := HD3.out k hlt
          obtain ⟨S, hS⟩ : ∃ S, sumTo s (dctZ s x) k h = S := ⟨_, rfl⟩
          rw [hS] at hd
          have hydk := HYD.out k
          have hyk := HYI.out k
          obtain ⟨q, hq⟩ : ∃ q : Nat, k * 128 / n = q := ⟨_, rfl⟩
          have hqq : (k : Int) * 128 / (n : Int) = (q : Int) := by rw [← hq]; simp
          rw [hS, hq] at hydk
          obtain ⟨tu, htu⟩ : ∃ tu, turnF (q : Int) = tu := ⟨_, rfl⟩
          have hts := turnF_small (q : Int)
          rw [htu] at hydk hts
          have hcall := HTU.out (q : Int)
          rw [htu] at hcall
          have h64 : In64 tu.1 ∧ In64 tu.2 := by unfold small at hts; unfold In64; omega
          have d0 := (cell_blk (hu.block db hdl hdg) _).trans (hd 0 _ rfl)
          have d1 := (cell_blk (hu.block db hdl hdg) _).trans (hd 1 _ rfl)
          have d2 := (cell_blk (hu.block db hdl hdg) _).trans (hd 2 _ rfl)
          have d3 := (cell_blk (hu.block db hdl hdg) _).trans (hd 3 _ rfl)
          simp only [Nat.add_zero] at d0 d1 d2 d3
          have hdbl : db < wr.heap.size := Nat.lt_of_lt_of_le hdl hu.size
          have hgl := hRr.lt
          have HQQ := Lib.hid hqq
          have HUR := Lib.hid hu
          have HRR := Lib.hid hRr
          have HYK := Lib.hid hydk
          have HYN := Lib.hid hyk
          have HTC := Lib.hid hcall
          have H64 := Lib.hid h64
          clear hd hS hydk hyk hq hqq htu hts hcall h64 hu hRr
          go_upto_region 14 with fail
          refine cut_world (fun Y => Below wr.heap.size wr Y ∧ Y.heap[wr.heap.size]? = some (.cells #[.int .i64 (accHi S.1), .int .u64 (accLo S.1), .int .i64 (accHi S.2), .int .u64 (accLo S.2)] BigT (0, 0))) ⟨by (repeat' (first | (with_reducible exact Below.refl _ _) | (with_reducible assumption) | (with_reducible refine Below.alloc ?_ ?_ _) | (with_reducible refine below_grew ?_ ?_ _) | (with_reducible refine Below.setCell ?_ ?_ _) | (with_reducible refine Below.drew ?_) | (with_reducible refine below_drewN ?_ _) | omega | (simp; done) | (simp; omega))), alloc_at _ _⟩ ?_
          rintro Y ⟨hbY, hcY⟩
          have HBY := Lib.hid hbY
          obtain ⟨k1, k2, k3⟩ := block_facts hcY
          have y0 := k1 0
          have y1 := k1 1
          have y2 := k1 2
          have y3 := k1 3
          simp only [List.getElem?_toArray, List.getElem?_cons_zero, List.getElem?_cons_succ] at y0 y1 y2 y3
          have hTY : CosW Y := HC.out.below ((HW3.out.trans ⟨HUR.out.os, HUR.out.tape, HUR.out.output, HUR.out.size, fun i hi => HUR.out.block i (by have := HW3.out.size; omega) (by omega)⟩).trans (hbY.mono (by have := HW3.out.size; have := HUR.out.size; omega)))
          have HTY := Lib.hid hTY
          have HUY := Lib.hid (HUR.out.trans (Upd.of_below hbY))
          have hRY := HRR.out.keep hbY
          have HRY := Lib.hid hRY
          have hgl2 := hRY.lt
          clear hRY
          generalize wr.heap.size = bb at *
          clear k1 k2 hbY hcY d0 d1 d2 d3 hTY
          have wk : ((k : Int) * 128 + 9223372036854775808) % 18446744073709551616 - 9223372036854775808 = (k : Int) * 128 := by omega
          have hn0 : ¬ n = 0 := by omega
          refine wp_region_inv [] (fun W => Below Y.heap.size Y W) (fun W W' => Below W.heap.size W W') 8 (by kernel_rfl) (by kernel_rfl) (by kernel_rfl) ((Below.refl _ _).drew) (fun W W' h h' => h.trans (h'.mono h.size)) (fun _ _ h => h.size) ?_
          simp only [List.take_succ_cons, List.take_zero, List.drop_succ_cons, List.drop_zero]
          refine wpInv_det (by kernel_rfl) (by kernel_rfl) ?_
          apply Exists.intro
          refine ⟨?_, ?_, ?_⟩
          · intro U W hC hH
            have hc1 := (bcell hC).1
            have hf1 := (bcell hC).2
            simp only [HypsU, predsOf, Region.binds, List.filterMap_cons, List.filterMap_nil, if_true, List.nil_append, List.cons_append, List.getD_cons_zero, List.getD_cons_succ] at hH
            simp only [fillPuts, Act.put, List.setIfInBounds_toArray, List.set_cons_zero, List.set_cons_succ, Nat.reduceAdd]
            go_wp2_with fail
            refine ⟨rfl, rfl, by (repeat' (first | (with_reducible exact Below.refl _ _) | (with_reducible assumption) | (with_reducible refine Below.alloc ?_ ?_ _) | (with_reducible refine below_grew ?_ ?_ _) | (with_reducible refine Below.setCell ?_ ?_ _) | (with_reducible refine Below.drew ?_) | (with_reducible refine below_drewN ?_ _) | omega | (simp; done) | (simp; omega))), ?_⟩
            conv => lhs; whnf
            try rfl
          · exact fun _ => rfl
          simp only [List.nil_append, List.cons_append, Nat.reduceAdd]
          refine wpInv_det (by kernel_rfl) (by kernel_rfl) ?_
          apply Exists.intro
          refine ⟨?_, ?_, ?_⟩
          · intro U W hC hH
            have hc1 := (bcell hC).1
            have hf1 := (bcell hC).2
            simp only [HypsU, predsOf, Region.binds, List.filterMap_cons, List.filterMap_nil, if_true, List.nil_append, List.cons_append, List.getD_cons_zero, List.getD_cons_succ] at hH
            simp only [fillPuts, Act.put, List.setIfInBounds_toArray, List.set_cons_zero, List.set_cons_succ, Nat.reduceAdd]
            go_wp2_with fail
            refine ⟨rfl, rfl, by (repeat' (first | (with_reducible exact Below.refl _ _) | (with_reducible assumption) | (with_reducible refine Below.alloc ?_ ?_ _) | (with_reducible refine below_grew ?_ ?_ _) | (with_reducible refine Below.setCell ?_ ?_ _) | (with_reducible refine Below.drew ?_) | (with_reducible refine below_drewN ?_ _) | omega | (simp; done) | (simp; omega))), ?_⟩
            conv => lhs; whnf
            try rfl
          · exact fun _ => rfl
          simp only [List.nil_append, List.cons_append, Nat.reduceAdd]
          refine wpInv_det (by kernel_rfl) (by kernel_rfl) ?_
          apply Exists.intro
          refine ⟨?_, ?_, ?_⟩
          · intro U W hC hH
            have hc1 := (bcell hC).1
            have hf1 := (bcell hC).2
            simp only [HypsU, predsOf, Region.binds, List.filterMap_cons, List.filterMap_nil, if_true, List.nil_append, List.cons_append, List.getD_cons_zero, List.getD_cons_succ] at hH
            simp only [fillPuts, Act.put, List.setIfInBounds_toArray, List.set_cons_zero, List.set_cons_succ, Nat.reduceAdd]
            go_wp2_with fail
            refine ⟨rfl, rfl, by (repeat' (first | (with_reducible exact Below.refl _ _) | (with_reducible assumption) | (with_reducible refine Below.alloc ?_ ?_ _) | (with_reducible refine below_grew ?_ ?_ _) | (with_reducible refine Below.setCell ?_ ?_ _) | (with_reducible refine Below.drew ?_) | (with_reducible refine below_drewN ?_ _) | omega | (simp; done) | (simp; omega))), ?_⟩
            conv => lhs; whnf
            try rfl
          · exact fun _ => rfl
          simp only [List.nil_append, List.cons_append, Nat.reduceAdd]
          refine wpInv_det (by kernel_rfl) (by kernel_rfl) ?_
          apply Exists.intro
          refine ⟨?_, ?_, ?_⟩
          · intro U W hC hH
            have hc1 := (bcell hC).1
            have hf1 := (bcell hC).2
            simp only [HypsU, predsOf, Region.binds, List.filterMap_cons, List.filterMap_nil, if_true, List.nil_append, List.cons_append, List.getD_cons_zero, List.getD_cons_succ] at hH
            simp only [fillPuts, Act.put, List.setIfInBounds_toArray, List.set_cons_zero, List.set_cons_succ, Nat.reduceAdd]
            go_wp2_with fail
            refine ⟨rfl, rfl, by (repeat' (first | (with_reducible exact Below.refl _ _) | (with_reducible assumption) | (with_reducible refine Below.alloc ?_ ?_ _) | (with_reducible refine below_grew ?_ ?_ _) | (with_reducible refine Below.setCell ?_ ?_ _) | (with_reducible refine Below.drew ?_) | (with_reducible refine below_drewN ?_ _) | omega | (simp; done) | (simp; omega))), ?_⟩
            conv => lhs; whnf
            try rfl
          · exact fun _ => rfl
          simp only [List.nil_append, List.cons_append, Nat.reduceAdd]
          refine wpInv_det (by kernel_rfl) (by kernel_rfl) ?_
          apply Exists.intro
          refine ⟨?_, ?_, ?_⟩
          · intro U W hC hH
            have hc1 := (bcell hC).1
            have hf1 := (bcell hC).2
            simp only [HypsU, predsOf, Region.binds, List.filterMap_cons, List.filterMap_nil, if_true, List.nil_append, List.cons_append, List.getD_cons_zero, List.getD_cons_succ] at hH
            simp only [fillPuts, Act.put, List.setIfInBounds_toArray, List.set_cons_zero, List.set_cons_succ, Nat.reduceAdd]
            go_wp2_with fail
            refine ⟨rfl, rfl, by (repeat' (first | (with_reducible exact Below.refl _ _) | (with_reducible assumption) | (with_reducible refine Below.alloc ?_ ?_ _) | (with_reducible refine below_grew ?_ ?_ _) | (with_reducible refine Below.setCell ?_ ?_ _) | (with_reducible refine Below.drew ?_) | (with_reducible refine below_drewN ?_ _) | omega | (simp; done) | (simp; omega))), ?_⟩
            conv => lhs; whnf
            try rfl
          · exact fun _ => rfl
          simp only [List.nil_append, List.cons_append, Nat.reduceAdd]
          refine wpInv_det (by kernel_rfl) (by kernel_rfl) ?_
          apply Exists.intro
          refine ⟨?_, ?_, ?_⟩
          · intro U W hC hH
            have hc1 := (bcell hC).1
            have hf1 := (bcell hC).2
            simp only [HypsU, predsOf, Region.binds, List.filterMap_cons, List.filterMap_nil, if_true, List.nil_append, List.cons_append, List.getD_cons_zero, List.getD_cons_succ] at hH
            simp only [fillPuts, Act.put, List.setIfInBounds_toArray, List.set_cons_zero, List.set_cons_succ, Nat.reduceAdd]
            go_wp2_with fail
            refine ⟨rfl, rfl, by (repeat' (first | (with_reducible exact Below.refl _ _) | (with_reducible assumption) | (with_reducible refine Below.alloc ?_ ?_ _) | (with_reducible refine below_grew ?_ ?_ _) | (with_reducible refine Below.setCell ?_ ?_ _) | (with_reducible refine Below.drew ?_) | (with_reducible refine below_drewN ?_ _) | omega | (simp; done) | (simp; omega))), ?_⟩
            conv => lhs; whnf
            try rfl
          · exact fun _ => rfl
          simp only [List.nil_append, List.cons_append, Nat.reduceAdd]
          refine wpInv_det (by kernel_rfl) (by kernel_rfl) ?_
          apply Exists.intro
          refine ⟨?_, ?_, ?_⟩
          · intro U W hC hH
            have hc1 := (bcell hC).1
            have hf1 := (bcell hC).2
            simp only [HypsU, predsOf, Region.binds, List.filterMap_cons, List.filterMap_nil, if_true, List.nil_append, List.cons_append, List.getD_cons_zero, List.getD_cons_succ] at hH
            simp only [fillPuts, Act.put, List.setIfInBounds_toArray, List.set_cons_zero, List.set_cons_succ, Nat.reduceAdd]
            go_wp2_with fail
            refine ⟨rfl, rfl, by (repeat' (first | (with_reducible exact Below.refl _ _) | (with_reducible assumption) | (with_reducible refine Below.alloc ?_ ?_ _) | (with_reducible refine below_grew ?_ ?_ _) | (with_reducible refine Below.setCell ?_ ?_ _) | (with_reducible refine Below.drew ?_) | (with_reducible refine below_drewN ?_ _) | omega | (simp; done) | (simp; omega))), ?_⟩
            conv => lhs; whnf
            try rfl
          · exact fun _ => rfl
          simp only [List.nil_append, List.cons_append, Nat.reduceAdd]
          refine wpInv_det (by kernel_rfl) (by kernel_rfl) ?_
          apply Exists.intro
          refine ⟨?_, ?_, ?_⟩
          · intro U W hC hH
            have hc1 := (bcell hC).1
            have hf1 := (bcell hC).2
            simp only [HypsU, predsOf, Region.binds, List.filterMap_cons, List.filterMap_nil, if_true, List.nil_append, List.cons_append, List.getD_cons_zero, List.getD_cons_succ] at hH
            simp only [fillPuts, Act.put, List.setIfInBounds_toArray, List.set_cons_zero, List.set_cons_succ, Nat.reduceAdd]
            go_wp2_with fail; rw [HQQ.out]; refine (HTC.out _ (HTY.out.below hC)).mono ?_; rintro e w' ⟨rfl, hb1⟩; obtain ⟨x1, rfl⟩ := below_as_grew hb1; clear hb1; go_wp2_with fail
            refine ⟨rfl, rfl, by (repeat' (first | (with_reducible exact Below.refl _ _) | (with_reducible assumption) | (with_reducible refine Below.alloc ?_ ?_ _) | (with_reducible refine below_grew ?_ ?_ _) | (with_reducible refine Below.setCell ?_ ?_ _) | (with_reducible refine Below.drew ?_) | (with_reducible refine below_drewN ?_ _) | omega | (simp; done) | (simp; omega))), ?_⟩
            conv => lhs; whnf
            try rfl
          · exact fun _ => rfl
          simp only [List.nil_append, List.cons_append, Nat.reduceAdd]
          simp only [List.nil_append, List.cons_append, Nat.reduceAdd, fillPuts, Act.put, List.setIfInBounds_toArray, List.set_cons_zero, List.set_cons_succ]
          rintro U W hC ⟨h0, h1, h2, h3, h4, h5, h6, h7, -⟩ -
          simp only [h0, h1, h2, h3, h4, h5, h6, h7]
          clear h0 h1 h2 h3 h4 h5 h6 h7
          have hcall := HPU.out g (putTo s x k) S tu W (HRY.out.keep hC) H64.out (by rw [← HYK.out]; exact HYN.out.1) (by rw [← HYK.out]; exact HYN.out.2) k hlt
          rw [← HYK.out] at hcall
          have HCA := Lib.hid hcall
          have HUW := Lib.hid (HUY.out.trans (Upd.of_below hC))
          clear hcall hC
          go_wp2_with (go_at_call 67; refine HCA.out.mono ?_; rintro e w4 ⟨rfl, hu4, hr4⟩; have HU4 := Lib.hid hu4; have HR4 := Lib.hid hr4; clear hu4 hr4)
          exact ⟨⟨k + 1, by omega, by go_num, HR4.out.ext (fun i hi => HPT.out k hlt i hi), HUW.out.trans HU4.out⟩, by simp only [intOf]; omega⟩
        · obtain rfl : h = k := by omega
          have hlt' : ¬ (h : Int) < h := by omega
          have HUR := Lib.hid hu
          have HRR := Lib.hid hRr
          clear hu hRr
          go_wp2_with fail
          go_ret
          exact ⟨g, rfl, hgw, (HRR.out.ext (fun i hi => HPL.out i hi)).to_bx, HW3.out.trans ⟨HUR.out.os, HUR.out.tape, HUR.out.output, HUR.out.size, fun i hi => HUR.out.block i (by have := HW3.out.size; omega) (by omega)⟩⟩
end Go.Proofs.YtcibajleknhklaaDoor
end

section
namespace Go.Proofs.YtcibajleknhklaaDoor
open Go.RowKit
set_option linter.unusedSimpArgs false
set_option linter.unusedVariables false
/-- A sample ahead of rounding. -/
def dctV (s : Nat) (x : Nat → Int) (i : Nat) : Int := if i % 2 = 0 then (dctY s x (i / 2)).1 else -(dctY s x ((2 ^ (s + 1) - 1 - i) / 2)).2
theorem dctF_V (s : Nat) (x : Nat → Int) (i : Nat) : dctF s x i = clamp32 (rnd (dctSh s) (dctV s x i)) := by
  unfold dctF dctV; split <;> rfl
end Go.Proofs.YtcibajleknhklaaDoor
end

section
namespace Go.Proofs.YtcibajleknhklaaDoor
open Go.RowKit Go.BigFrame Go.Proofs.YtcibajleknhklaaDoorW.PrintWords Go.Proofs.YtcibajleknhklaaDoorW.PrintLast Go.Proofs.YtcibajleknhklaaDoorW.PrintMore
set_option linter.unusedSimpArgs false
set_option linter.unusedVariables false
abbrev k32 : Nat → IntKind := fun _ => .i32
set_option maxHeartbeats 2000000 in
set_option maxRecDepth 100000 in
theorem awake22 (w : World) (hT : CosW w) :
    Calls Tryd.prog 24 #[] w fun e w' => e = .returned (.bool true) ∧ Below w.heap.size w w' := by
  have hp := fun b c x w hT hb hx hx32 => dctPlain_any 2 (by decide) (by decide) b 0 c x w hT hb hx hx32
  simp only [Nat.reducePow, Nat.reduceAdd, Nat.zero_add] at hp
  have e0 : dctF 2 (fun _ => 0) 3 = 0 := by decide +kernel
  have e1 : dctF 2 (fun i => if i = 0 then 4096 else 0) 0 = 4076 := by decide +kernel
  have HP := Lib.hid hp
  have HC := Lib.hid hT
  have E0 := Lib.hid e0
  have E1 := Lib.hid e1
  clear hp hT e0 e1
  go_enter Tryd.func24, Tryd.ntmps24
  go_wp2_with (at_make; refine make_block _ rfl _ _ _ rfl 21 (.int .i32 0) 1 4 (by kernel_rfl) (by kernel_rfl) 8 rfl rfl (by omega) (by omega) k32 i32_zero ?_)
  refine (HP.out w.heap.size 8 (fun _ => 0) _ (HC.out.below (by (repeat' (first | (with_reducible exact Below.refl _ _) | (with_reducible assumption) | (with_reducible refine Below.alloc ?_ ?_ _) | (with_reducible refine below_grew ?_ ?_ _) | (with_reducible refine Below.setCell ?_ ?_ _) | (with_reducible refine Below.drew ?_) | (with_reducible refine below_drewN ?_ _) | omega | (simp; done) | (simp; omega))))) (by simp) (fun i hi => ag_cell (alloc_at _ _) i hi) (fun _ => by decide)).mono ?_
  rintro e w1 ⟨g, rfl, hg, hbg, hb1⟩
  have hB1 : Below w.heap.size w w1 := Below.trans (by (repeat' (first | (with_reducible exact Below.refl _ _) | (with_reducible assumption) | (with_reducible refine Below.alloc ?_ ?_ _) | (with_reducible refine below_grew ?_ ?_ _) | (with_reducible refine Below.setCell ?_ ?_ _) | (with_reducible refine Below.drew ?_) | (with_reducible refine below_drewN ?_ _) | omega | (simp; done) | (simp; omega)))) (hb1.mono (by simp))
  have HB1 := Lib.hid hB1
  have HG := Lib.hid hbg
  have hs1 := hB1.size
  clear hbg hb1 hB1 hg
  go_wp2_with fail
  refine (HP.out w1.heap.size 8 (fun i => if i = 0 then 4096 else 0) _ (HC.out.below (by have := HB1.out; (repeat' (first | (with_reducible exact Below.refl _ _) | (with_reducible assumption) | (with_reducible refine Below.alloc ?_ ?_ _) | (with_reducible refine below_grew ?_ ?_ _) | (with_reducible refine Below.setCell ?_ ?_ _) | (with_reducible refine Below.drew ?_) | (with_reducible refine below_drewN ?_ _) | omega | (simp; done) | (simp; omega))))) (by simp) ?_ (fun i => by split <;> decide)).mono ?_
  · intro i hi
    have : i = 0 ∨ i = 1 ∨ i = 2 ∨ i = 3 ∨ i = 4 ∨ i = 5 ∨ i = 6 ∨ i = 7 := by omega
    rcases this with rfl | rfl | rfl | rfl | rfl | rfl | rfl | rfl <;> simp [go_sem]
  rintro e w2 ⟨g2, rfl, hg2, hbg2, hb2⟩
  have hB2 : Below w.heap.size w w2 := Below.trans (by have := HB1.out; (repeat' (first | (with_reducible exact Below.refl _ _) | (with_reducible assumption) | (with_reducible refine Below.alloc ?_ ?_ _) | (with_reducible refine below_grew ?_ ?_ _) | (with_reducible refine Below.setCell ?_ ?_ _) | (with_reducible refine Below.drew ?_) | (with_reducible refine below_drewN ?_ _) | omega | (simp; done) | (simp; omega)))) (hb2.mono (by simp; omega))
  have c0 := ag_cell ((HG.out.keep (by (repeat' (first | (with_reducible exact Below.refl _ _) | (with_reducible assumption) | (with_reducible refine Below.alloc ?_ ?_ _) | (with_reducible refine below_grew ?_ ?_ _) | (with_reducible refine Below.setCell ?_ ?_ _) | (with_reducible refine Below.drew ?_) | (with_reducible refine below_drewN ?_ _) | omega | (simp; done) | (simp; omega))))).keep hb2) 3 (by decide)
  have c1 := ag_cell hbg2 0 (by decide)
  rw [E0.out] at c0
  rw [E1.out] at c1
  have l1 := (block_facts ((HG.out.keep (by (repeat' (first | (with_reducible exact Below.refl _ _) | (with_reducible assumption) | (with_reducible refine Below.alloc ?_ ?_ _) | (with_reducible refine below_grew ?_ ?_ _) | (with_reducible refine Below.setCell ?_ ?_ _) | (with_reducible refine Below.drew ?_) | (with_reducible refine below_drewN ?_ _) | omega | (simp; done) | (simp; omega))))).keep hb2)).2.2
  have l2 := (block_facts hbg2).2.2
  have HB2 := Lib.hid hB2
  clear hB2 hb2 hbg2 hg2
  go_wp2_with fail
  go_ret
  exact ⟨rfl, HB2.out⟩
abbrev T32 := 42
end Go.Proofs.YtcibajleknhklaaDoor
end

section
namespace Go.Proofs.YtcibajleknhklaaDoor
open Go.RowKit Go.BigFrame Go.Proofs.YtcibajleknhklaaDoorW.PrintWords Go.Proofs.YtcibajleknhklaaDoorW.PrintLast Go.Proofs.YtcibajleknhklaaDoorW.PrintMore
set_option linter.unusedSimpArgs false
set_option linter.unusedVariables false
def turns2 (n k : Nat) : List Value := ((List.range k).map fun i : Nat => turnF ((i : Int) * 128 / (n : Int))).flatMap pairCells
theorem turns2_succ (n k : Nat) : turns2 n (k + 1) = turns2 n k ++ [.int .i64 (turnF ((k : Int) * 128 / (n : Int))).1, .int .i64 (turnF ((k : Int) * 128 / (n : Int))).2] := by
  simp [turns2, List.range_succ, pairCells]
theorem pair_nought (i : Nat) : (Value.agg #[.int .i64 0, .int .i64 0]).cells[i % (Value.agg #[.int .i64 0, .int .i64 0]).cells.size]! = .int (kI i) 0 := by
  have h : i % 2 = 0 ∨ i % 2 = 1 := by omega
  show (#[Value.int .i64 0, .int .i64 0] : Array Value)[i % 2]! = .int (kI i) 0
  unfold kI
  rcases h with h | h
  · rw [h]; rfl
  · rw [h]; rfl
theorem PlanR.low {pb ob s B : Nat} {tv : Value} {w w' : World} (h : PlanR pb ob tv s w) (hb : Below B w w') (h1 : pb < B) (h2 : ob < B) (h3 : ∀ k, tv.ownBlock = some k → k < B) : PlanR pb ob tv s w' := by
  refine ⟨h.ne, (hb.block pb h1).trans h.st, (hb.block ob h2).trans h.ord, ?_⟩
  obtain ⟨a, b | ⟨g', cap, cur, b1, b2, b3, b4⟩⟩ := h.own
  · exact ⟨a, .inl b⟩
  · exact ⟨a, .inr ⟨g', cap, cur, b1, b2, (hb.block g' (h3 g' (by rw [b1]; rfl))).trans b3, b4⟩⟩
abbrev DctT := 163
/-- What makes samples: its struct at db, its room at zb and gb, its plan, the turns behind it. -/
structure DctR (db zb gb pb ob : Nat) (tvp tv : Value) (s : Nat) (w : World) : Prop where
  st : w.heap[db]? = some (.cells #[.pointer (some ⟨pb, 0, none⟩), .slice (some ⟨zb, 0, none⟩) (2 ^ s) (2 ^ s), .slice (some ⟨gb, 0, none⟩) (2 ^ s) (2 ^ s), tv] DctT (0, 0))
  z : ∃ f, Bx zb 49 kI (2 ^ s * 2) f w
  g : ∃ X, BigW gb (2 ^ s) X w
  plan : PlanR pb ob tvp s w
  own : w.ownsRow 0 49 2 tv (2 ^ s) (turns2 (2 ^ (s + 1)) (2 ^ s))
  a1 : db ≠ zb
  a2 : db ≠ gb
  a3 : zb ≠ gb
  a4 : pb ≠ zb ∧ pb ≠ gb ∧ ob ≠ zb ∧ ob ≠ gb
  a5 : some zb ≠ tvp.ownBlock ∧ some gb ≠ tvp.ownBlock
  a6 : some zb ≠ tv.ownBlock ∧ some gb ≠ tv.ownBlock
set_option maxHeartbeats 4000000 in
set_option maxRecDepth 100000 in
theorem newDct_any (s : Nat) (h1 : 2 ≤ s) (h2 : s ≤ 4) (w : World) (hT : CosW w) :
    Calls Tryd.prog 41 #[.int .i64 ((2 ^ (s + 1) : Nat) : Int)] w fun e w' => ∃ db zb gb pb ob tvp tv, e = .returned (.tuple #[.pointer (some ⟨db, 0, none⟩), .int .i64 0]) ∧ w.heap.size ≤ zb ∧ w.heap.size ≤ gb ∧ DctR db zb gb pb ob tvp tv s w' ∧ Below w.heap.size w w' := by
  have hth := fun w => there_dct s h1 h2 w
  have hnp := fun w h => new_plan s (by omega) w h
  obtain ⟨n, hn⟩ : ∃ n : Nat, 2 ^ (s + 1) = n := ⟨_, rfl⟩
  obtain ⟨h, hh⟩ : ∃ h : Nat, 2 ^ s = h := ⟨_, rfl⟩
  have hnh : n = h + h := by rw [← hn, ← hh, Nat.pow_succ]; omega
  have hn8 : 8 ≤ n ∧ n ≤ 32 := by
    rcases dct_s s h1 h2 with rfl | rfl | rfl <;> (rw [← hn]; decide)
  have hh8 : 4 ≤ h ∧ h ≤ 16 := by omega
  have hdiv : (n : Int) / 2 = (h : Int) := by omega
  rw [hn] at hth ⊢
  rw [hh] at hnp
  have HTH := Lib.hid hth
  have HNP := Lib.hid hnp
  have HC := Lib.hid hT
  have HN := Lib.hid hn
  have HH := Lib.hid hh
  have HDIV := Lib.hid hdiv
  have T1 := turn_any
  unfold pairAgg at T1
  have HTU := Lib.hid T1
  clear T1 hth hnp hT hn hh hnh hdiv
  go_enter Tryd.func41, Tryd.ntmps41
  go_wp2_with fail
  refine (HTH.out _).mono ?_
  rintro e w1 ⟨rfl, hb1⟩
  have HB1 := Lib.hid hb1
  clear hb1
  go_wp2_with fail
  rw [HDIV.out]
  refine (HNP.out _ (HC.out.below HB1.out)).mono ?_
  rintro e w2 ⟨pb, ob, tvp, rfl, hpb, hob, htv, hP, hb2⟩
  have HB2 := Lib.hid (HB1.out.trans (hb2.mono HB1.out.size))
  have HP := Lib.hid hP
  have HTV := Lib.hid (show ∀ k, tvp.ownBlock = some k → k < w2.heap.size from fun k hk => (htv k hk).2)
  clear htv hP hb2
  go_wp2_with fail
  refine wp_region_inv [3, 6] (fun W => Below w2.heap.size w2 W) (fun W W' => Below W.heap.size W W') 7 (by kernel_rfl) (by kernel_rfl) (by kernel_rfl) ((Below.refl _ _).drew) (fun W W' h h' => h.trans (h'.mono h.size)) (fun _ _ h => h.size) ?_
  simp only [List.take_succ_cons, List.take_zero, List.drop_succ_cons, List.drop_zero]
  refine wpInv_det (by kernel_rfl) (by kernel_rfl) ?_
  apply Exists.intro
  refine ⟨?_, ?_, ?_⟩
  · intro U W hC hH
    have hc1 := (bcell hC).1
    have hf1 := (bcell hC).2
    simp only [HypsU, predsOf, Region.binds, List.filterMap_cons, List.filterMap_nil, if_true, List.nil_append, List.cons_append, List.getD_cons_zero, List.getD_cons_succ] at hH
    simp only [fillPuts, Act.put, List.setIfInBounds_toArray, List.set_cons_zero, List.set_cons_succ, Nat.reduceAdd]
    go_wp2_with fail
    refine ⟨rfl, rfl, by (repeat' (first | (with_reducible exact Below.refl _ _) | (with_reducible assumption) | (with_reducible refine Below.alloc ?_ ?_ _) | (with_reducible refine below_grew ?_ ?_ _) | (with_reducible refine Below.setCell ?_ ?_ _) | (with_reducible refine Below.drew ?_) | (with_reducible refine below_drewN ?_ _) | omega | (simp; done) | (simp; omega))), ?_⟩
    conv => lhs; whnf
    try rfl
  · exact fun _ => rfl
  simp only [List.nil_append, List.cons_append, Nat.reduceAdd]
  refine wpInv_det (by kernel_rfl) (by kernel_rfl) ?_
  apply Exists.intro
  refine ⟨?_, ?_, ?_⟩
  · intro U W hC hH
    have hc1 := (bcell hC).1
    have hf1 := (bcell hC).2
    simp only [HypsU, predsOf, Region.binds, List.filterMap_cons, List.filterMap_nil, if_true, List.nil_append, List.cons_append, List.getD_cons_zero, List.getD_cons_succ] at hH
    simp only [fillPuts, Act.put, List.setIfInBounds_toArray, List.set_cons_zero, List.set_cons_succ, Nat.reduceAdd]
    go_wp2_with fail
    refine ⟨rfl, rfl, by (repeat' (first | (with_reducible exact Below.refl _ _) | (with_reducible assumption) | (with_reducible refine Below.alloc ?_ ?_ _) | (with_reducible refine below_grew ?_ ?_ _) | (with_reducible refine Below.setCell ?_ ?_ _) | (with_reducible refine Below.drew ?_) | (with_reducible refine below_drewN ?_ _) | omega | (simp; done) | (simp; omega))), ?_⟩
    conv => lhs; whnf
    try rfl
  · exact fun _ => rfl
  simp only [List.nil_append, List.cons_append, Nat.reduceAdd]
  refine wpInv_det (by kernel_rfl) (by kernel_rfl) ?_
  apply Exists.intro
  refine ⟨?_, ?_, ?_⟩
  · intro U W hC hH
    have hc1 := (bcell hC).1
    have hf1 := (bcell hC).2
    simp only [HypsU, predsOf, Region.binds, List.filterMap_cons, List.filterMap_nil, if_true, List.nil_append, List.cons_append, List.getD_cons_zero, List.getD_cons_succ] at hH
    simp only [fillPuts, Act.put, List.setIfInBounds_toArray, List.set_cons_zero, List.set_cons_succ, Nat.reduceAdd]
    go_wp2_with fail
    refine ⟨rfl, rfl, by (repeat' (first | (with_reducible exact Below.refl _ _) | (with_reducible assumption) | (with_reducible refine Below.alloc ?_ ?_ _) | (with_reducible refine below_grew ?_ ?_ _) | (with_reducible refine Below.setCell ?_ ?_ _) | (with_reducible refine Below.drew ?_) | (with_reducible refine below_drewN ?_ _) | omega | (simp; done) | (simp; omega))), ?_⟩
    conv => lhs; whnf
    try rfl
  · exact fun _ => rfl
  simp only [List.nil_append, List.cons_append, Nat.reduceAdd]
  refine ⟨fun U W => ∃ p, U 3 = .slice (some ⟨p, 0, none⟩) h h ∧ w2.heap.size ≤ p ∧ Bx p 49 kI (h * 2) (fun _ => 0) W, fun _ _ => rfl, ?_, ?_, ?_⟩
  · rintro U W W' hC hT ⟨p, h3, hp, hpc⟩
    exact ⟨p, h3, hp, hpc.keep hT⟩
  · intro U W hC hH
    simp only [HypsU, predsOf, Region.binds, List.filterMap_cons, List.filterMap_nil, if_true, List.nil_append, List.cons_append, List.getD_cons_zero, List.getD_cons_succ] at hH
    simp only [fillPuts, Act.put, List.setIfInBounds_toArray, List.set_cons_zero, List.set_cons_succ, Nat.reduceAdd]
    have h2 : U 2 = .int .i64 (h : Int) := by rw [hH.1, HDIV.out]
    rw [h2]
    clear hH h2
    go_wp2_with (at_make; refine make_block _ rfl _ _ _ rfl 49 (.agg #[.int .i64 0, .int .i64 0]) 2 16 (by kernel_rfl) pairInfo h rfl rfl (by omega) (by omega) kI pair_nought ?_)
    refine ⟨rfl, rfl, by (repeat' (first | (with_reducible exact Below.refl _ _) | (with_reducible assumption) | (with_reducible refine Below.alloc ?_ ?_ _) | (with_reducible refine below_grew ?_ ?_ _) | (with_reducible refine Below.setCell ?_ ?_ _) | (with_reducible refine Below.drew ?_) | (with_reducible refine below_drewN ?_ _) | omega | (simp; done) | (simp; omega))), ⟨_, updU_eq _ _ _, hC.size, alloc_at _ _⟩, ⟨_, rfl, Nat.le_refl _, by simp⟩⟩
  simp only [List.nil_append, List.cons_append, Nat.reduceAdd]
  refine wpInv_det (by kernel_rfl) (by kernel_rfl) ?_
  apply Exists.intro
  refine ⟨?_, ?_, ?_⟩
  · intro U W hC hH
    have hc1 := (bcell hC).1
    have hf1 := (bcell hC).2
    simp only [HypsU, predsOf, Region.binds, List.filterMap_cons, List.filterMap_nil, if_true, List.nil_append, List.cons_append, List.getD_cons_zero, List.getD_cons_succ] at hH
    simp only [fillPuts, Act.put, List.setIfInBounds_toArray, List.set_cons_zero, List.set_cons_succ, Nat.reduceAdd]
    go_wp2_with fail
    refine ⟨rfl, rfl, by (repeat' (first | (with_reducible exact Below.refl _ _) | (with_reducible assumption) | (with_reducible refine Below.alloc ?_ ?_ _) | (with_reducible refine below_grew ?_ ?_ _) | (with_reducible refine Below.setCell ?_ ?_ _) | (with_reducible refine Below.drew ?_) | (with_reducible refine below_drewN ?_ _) | omega | (simp; done) | (simp; omega))), ?_⟩
    conv => lhs; whnf
    try rfl
  · exact fun _ => rfl
  simp only [List.nil_append, List.cons_append, Nat.reduceAdd]
  refine wpInv_det (by kernel_rfl) (by kernel_rfl) ?_
  apply Exists.intro
  refine ⟨?_, ?_, ?_⟩
  · intro U W hC hH
    have hc1 := (bcell hC).1
    have hf1 := (bcell hC).2
    simp only [HypsU, predsOf, Region.binds, List.filterMap_cons, List.filterMap_nil, if_true, List.nil_append, List.cons_append, List.getD_cons_zero, List.getD_cons_succ] at hH
    simp only [fillPuts, Act.put, List.setIfInBounds_toArray, List.set_cons_zero, List.set_cons_succ, Nat.reduceAdd]
    go_wp2_with fail
    refine ⟨rfl, rfl, by (repeat' (first | (with_reducible exact Below.refl _ _) | (with_reducible assumption) | (with_reducible refine Below.alloc ?_ ?_ _) | (with_reducible refine below_grew ?_ ?_ _) | (with_reducible refine Below.setCell ?_ ?_ _) | (with_reducible refine Below.drew ?_) | (with_reducible refine below_drewN ?_ _) | omega | (simp; done) | (simp; omega))), ?_⟩
    conv => lhs; whnf
    try rfl
  · exact fun _ => rfl
  simp only [List.nil_append, List.cons_append, Nat.reduceAdd]
  refine ⟨fun U W => ∃ p, U 6 = .slice (some ⟨p, 0, none⟩) h h ∧ w2.heap.size ≤ p ∧ BigW p h (fun _ => (0, 0)) W, fun _ _ => rfl, ?_, ?_, ?_⟩
  · rintro U W W' hC hT ⟨p, h3, hp, hpc⟩
    exact ⟨p, h3, hp, hpc.keep hT⟩
  · intro U W hC hH
    simp only [HypsU, predsOf, Region.binds, List.filterMap_cons, List.filterMap_nil, if_true, List.nil_append, List.cons_append, List.getD_cons_zero, List.getD_cons_succ] at hH
    simp only [fillPuts, Act.put, List.setIfInBounds_toArray, List.set_cons_zero, List.set_cons_succ, Nat.reduceAdd]
    have h2 : U 5 = .int .i64 (h : Int) := by rw [hH.1, HDIV.out]
    rw [h2]
    clear hH h2
    go_wp2_with (at_make; refine make_block _ rfl _ _ _ rfl BigT (.agg #[.int .i64 0, .int .u64 0, .int .i64 0, .int .u64 0]) 4 32 (by kernel_rfl) bigInfo h rfl rfl (by omega) (by omega) kB big_zero ?_)
    refine ⟨rfl, rfl, by (repeat' (first | (with_reducible exact Below.refl _ _) | (with_reducible assumption) | (with_reducible refine Below.alloc ?_ ?_ _) | (with_reducible refine below_grew ?_ ?_ _) | (with_reducible refine Below.setCell ?_ ?_ _) | (with_reducible refine Below.drew ?_) | (with_reducible refine below_drewN ?_ _) | omega | (simp; done) | (simp; omega))), ⟨_, updU_eq _ _ _, hC.size, bigW_new W h⟩, ⟨_, rfl, Nat.le_refl _, by simp⟩⟩
  simp only [List.nil_append, List.cons_append, Nat.reduceAdd, fillPuts, Act.put, List.setIfInBounds_toArray, List.set_cons_zero, List.set_cons_succ]
  rintro U W hC ⟨h0, h1', h2', ⟨zb, h3, hz, hzc⟩, h4, h5, ⟨gb, h6, hg, hgc⟩, -⟩ hF
  have hzg : zb ≠ gb := fun e => hF 3 6 rfl rfl (by decide) (by rw [h3, h6, e])
  simp only [h0, h1', h2', h3, h4, h5, h6]
  clear h0 h1' h2' h3 h4 h5 h6 hF
  have hPW := HP.out.keep hC
  have hWW := HB2.out.trans (hC.mono HB2.out.size)
  have hzl := (block_facts hzc).2.2
  have hgl := (block_facts hgc).2.2
  have hpz : pb ≠ zb ∧ pb ≠ gb ∧ ob ≠ zb ∧ ob ≠ gb := by
    have := (block_facts HP.out.st).2.2
    have := (block_facts HP.out.ord).2.2
    omega
  have htz : some zb ≠ tvp.ownBlock ∧ some gb ≠ tvp.ownBlock := ⟨fun e => by have := HTV.out _ e.symm; omega, fun e => by have := HTV.out _ e.symm; omega⟩
  have hzw : w.heap.size ≤ zb ∧ w.heap.size ≤ gb := by have := HB2.out.size; omega
  have HPW := Lib.hid hPW
  have HWW := Lib.hid hWW
  have HZC := Lib.hid hzc
  have HGC := Lib.hid hgc
  have HPZ := Lib.hid hpz
  have HTZ := Lib.hid htz
  clear hPW hWW hzc hgc hpz htz HP HB2 HTV
  go_wp2_with fail
  rw [HDIV.out]
  obtain ⟨db, hdb⟩ : ∃ db, W.heap.size = db := ⟨_, rfl⟩
  rw [hdb] at hzl hgl ⊢
  have hdw : w.heap.size ≤ db := by omega
  obtain ⟨V, hV⟩ : ∃ V, W.alloc (.cells #[.pointer (some ⟨pb, 0, none⟩), .slice (some ⟨zb, 0, none⟩) h h, .slice (some ⟨gb, 0, none⟩) h h, .slice none 0 0] DctT) = V := ⟨_, rfl⟩
  have hWV : Below W.heap.size W V := by rw [← hV]; (repeat' (first | (with_reducible exact Below.refl _ _) | (with_reducible assumption) | (with_reducible refine Below.alloc ?_ ?_ _) | (with_reducible refine below_grew ?_ ?_ _) | (with_reducible refine Below.setCell ?_ ?_ _) | (with_reducible refine Below.drew ?_) | (with_reducible refine below_drewN ?_ _) | omega | (simp; done) | (simp; omega)))
  have hdV : V.heap[db]? = some (.cells #[.pointer (some ⟨pb, 0, none⟩), .slice (some ⟨zb, 0, none⟩) h h, .slice (some ⟨gb, 0, none⟩) h h, .slice none 0 0] DctT (0, 0)) := by rw [← hV, ← hdb]; exact alloc_at _ _
  rw [hV]
  have HPV := Lib.hid (HPW.out.keep hWV)
  have HZV := Lib.hid (HZC.out.keep hWV)
  have HGV := Lib.hid (HGC.out.keep hWV)
  have HBV := Lib.hid (HWW.out.trans (hWV.mono HWW.out.size))
  have HDV := Lib.hid hdV
  have hpd : pb < db ∧ ob < db ∧ (∀ k, tvp.ownBlock = some k → k < db) := by
    have q1 := (block_facts HPW.out.st).2.2
    have q2 := (block_facts HPW.out.ord).2.2
    exact ⟨by omega, by omega, fun k hk => by have := (own_lt' HPW.out.own k hk).2; omega⟩
  have HPD := Lib.hid hpd
  clear hV hWV hdV hpd HPW HZC HGC HWW hdb
  go_loopw [28] (fun cnt wr => ∃ k : Nat, k ≤ h ∧ cnt = .int .i64 k ∧ ∃ tv, wr.heap[db]? = some (.cells #[.pointer (some ⟨pb, 0, none⟩), .slice (some ⟨zb, 0, none⟩) h h, .slice (some ⟨gb, 0, none⟩) h h, tv] DctT (0, 0)) ∧
      wr.ownsRow (db + 1) 49 2 tv k (turns2 n k) ∧ Below db V wr) (fun cnt _ => h - (intOf cnt).toNat)
  case atStart => exact ⟨0, by omega, rfl, .slice none 0 0, HDV.out, World.ownsRow_nil _ _ _ _, Below.refl _ _⟩
  case round =>
    obtain ⟨k, hk, rfl, tv, hc, hR, hB⟩ := hrel
    have HBD := Lib.hid hB
    have HB := Lib.hid (HBV.out.trans (hB.mono hdw))
    have HR := Lib.hid hR
    have HCC := Lib.hid hc
    have hcell := (block_facts hc).1 3
    have hfz := (block_facts hc).2.1 3
    have hpl := (block_facts hc).2.2
    clear hB hR hc
    by_cases hlt : k < h
    · have hlt' : (k : Int) < (h : Int) := by omega
      have hmm : ((k : Int) * 128 + 9223372036854775808) % 18446744073709551616 - 9223372036854775808 = (k : Int) * 128 := by omega
      have hn0 : ¬ n = 0 := by omega
      go_wp2_with fail
      have hbs : db + 1 ≤ wr.heap.size := by omega
      have hpw1 : w.heap.size ≤ db + 1 := by omega
      have hop1 : db < db + 1 := by omega
      refine wp_region_inv [] (fun W => AT (db + 1) 49 2 tv.ownBlock (turns2 n) (k + 1) wr W) (fun W W' => AT (db + 1) 49 2 tv.ownBlock (turns2 n) (k + 1) W W') 12 (by kernel_rfl) (by kernel_rfl) (by kernel_rfl) (AT.of_below ((Below.refl _ _).drew) hbs) (fun W W' h h' => h.trans h') (fun _ _ h => h.grow.size) ?_
      simp only [List.take_succ_cons, List.take_zero, List.drop_succ_cons, List.drop_zero]
      refine wpInv_det (by kernel_rfl) (by kernel_rfl) ?_
      apply Exists.intro
      refine ⟨?_, ?_, ?_⟩
      · intro U W hC hH
        have hws := Nat.le_trans hbs hC.grow.size
        simp only [HypsU, predsOf, Region.binds, List.filterMap_cons, List.filterMap_nil, if_true, List.nil_append, List.cons_append, List.getD_cons_zero, List.getD_cons_succ] at hH
        simp only [fillPuts, Act.put, List.setIfInBounds_toArray, List.set_cons_zero, List.set_cons_succ, Nat.reduceAdd]
        go_wp2_with fail
        refine ⟨rfl, rfl, AT.of_below (by (repeat' (first | (with_reducible exact Below.refl _ _) | (with_reducible assumption) | (with_reducible refine Below.alloc ?_ ?_ _) | (with_reducible refine below_grew ?_ ?_ _) | (with_reducible refine Below.setCell ?_ ?_ _) | (with_reducible refine Below.drew ?_) | (with_reducible refine below_drewN ?_ _) | omega | (simp; done) | (simp; omega)))) hws, ?_⟩
        conv => lhs; whnf
        try rfl
      · exact fun _ => rfl
      simp only [List.nil_append, List.cons_append, Nat.reduceAdd]
      refine wpInv_det (by kernel_rfl) (by kernel_rfl) ?_
      apply Exists.intro
      refine ⟨?_, ?_, ?_⟩
      · intro U W hC hH
        have hws := Nat.le_trans hbs hC.grow.size
        simp only [HypsU, predsOf, Region.binds, List.filterMap_cons, List.filterMap_nil, if_true, List.nil_append, List.cons_append, List.getD_cons_zero, List.getD_cons_succ] at hH
        simp only [fillPuts, Act.put, List.setIfInBounds_toArray, List.set_cons_zero, List.set_cons_succ, Nat.reduceAdd]
        go_wp2_with fail
        refine ⟨rfl, rfl, AT.of_below (by (repeat' (first | (with_reducible exact Below.refl _ _) | (with_reducible assumption) | (with_reducible refine Below.alloc ?_ ?_ _) | (with_reducible refine below_grew ?_ ?_ _) | (with_reducible refine Below.setCell ?_ ?_ _) | (with_reducible refine Below.drew ?_) | (with_reducible refine below_drewN ?_ _) | omega | (simp; done) | (simp; omega)))) hws, ?_⟩
        conv => lhs; whnf
        try rfl
      · exact fun _ => rfl
      simp only [List.nil_append, List.cons_append, Nat.reduceAdd]
      refine wpInv_det (by kernel_rfl) (by kernel_rfl) ?_
      apply Exists.intro
      refine ⟨?_, ?_, ?_⟩
      · intro U W hC hH
        have hws := Nat.le_trans hbs hC.grow.size
        simp only [HypsU, predsOf, Region.binds, List.filterMap_cons, List.filterMap_nil, if_true, List.nil_append, List.cons_append, List.getD_cons_zero, List.getD_cons_succ] at hH
        simp only [fillPuts, Act.put, List.setIfInBounds_toArray, List.set_cons_zero, List.set_cons_succ, Nat.reduceAdd]
        go_wp2_with fail
        refine ⟨rfl, rfl, AT.of_below (by (repeat' (first | (with_reducible exact Below.refl _ _) | (with_reducible assumption) | (with_reducible refine Below.alloc ?_ ?_ _) | (with_reducible refine below_grew ?_ ?_ _) | (with_reducible refine Below.setCell ?_ ?_ _) | (with_reducible refine Below.drew ?_) | (with_reducible refine below_drewN ?_ _) | omega | (simp; done) | (simp; omega)))) hws, ?_⟩
        conv => lhs; whnf
        try rfl
      · exact fun _ => rfl
      simp only [List.nil_append, List.cons_append, Nat.reduceAdd]
      refine wpInv_det (by kernel_rfl) (by kernel_rfl) ?_
      apply Exists.intro
      refine ⟨?_, ?_, ?_⟩
      · intro U W hC hH
        have hws := Nat.le_trans hbs hC.grow.size
        simp only [HypsU, predsOf, Region.binds, List.filterMap_cons, List.filterMap_nil, if_true, List.nil_append, List.cons_append, List.getD_cons_zero, List.getD_cons_succ] at hH
        simp only [fillPuts, Act.put, List.setIfInBounds_toArray, List.set_cons_zero, List.set_cons_succ, Nat.reduceAdd]
        go_wp2_with fail
        refine ⟨rfl, rfl, AT.of_below (by (repeat' (first | (with_reducible exact Below.refl _ _) | (with_reducible assumption) | (with_reducible refine Below.alloc ?_ ?_ _) | (with_reducible refine below_grew ?_ ?_ _) | (with_reducible refine Below.setCell ?_ ?_ _) | (with_reducible refine Below.drew ?_) | (with_reducible refine below_drewN ?_ _) | omega | (simp; done) | (simp; omega)))) hws, ?_⟩
        conv => lhs; whnf
        try rfl
      · exact fun _ => rfl
      simp only [List.nil_append, List.cons_append, Nat.reduceAdd]
      refine wpInv_det (by kernel_rfl) (by kernel_rfl) ?_
      apply Exists.intro
      refine ⟨?_, ?_, ?_⟩
      · intro U W hC hH
        have hws := Nat.le_trans hbs hC.grow.size
        simp only [HypsU, predsOf, Region.binds, List.filterMap_cons, List.filterMap_nil, if_true, List.nil_append, List.cons_append, List.getD_cons_zero, List.getD_cons_succ] at hH
        simp only [fillPuts, Act.put, List.setIfInBounds_toArray, List.set_cons_zero, List.set_cons_succ, Nat.reduceAdd]
        have hcl := (hC.below.cell (p := ⟨db, 3, none⟩) hop1).trans hcell; go_wp2_with fail
        refine ⟨rfl, rfl, AT.of_below (by (repeat' (first | (with_reducible exact Below.refl _ _) | (with_reducible assumption) | (with_reducible refine Below.alloc ?_ ?_ _) | (with_reducible refine below_grew ?_ ?_ _) | (with_reducible refine Below.setCell ?_ ?_ _) | (with_reducible refine Below.drew ?_) | (with_reducible refine below_drewN ?_ _) | omega | (simp; done) | (simp; omega)))) hws, ?_⟩
        conv => lhs; whnf
        try rfl
      · exact fun _ => rfl
      simp only [List.nil_append, List.cons_append, Nat.reduceAdd]
      refine wpInv_det (by kernel_rfl) (by kernel_rfl) ?_
      apply Exists.intro
      refine ⟨?_, ?_, ?_⟩
      · intro U W hC hH
        have hws := Nat.le_trans hbs hC.grow.size
        simp only [HypsU, predsOf, Region.binds, List.filterMap_cons, List.filterMap_nil, if_true, List.nil_append, List.cons_append, List.getD_cons_zero, List.getD_cons_succ] at hH
        simp only [fillPuts, Act.put, List.setIfInBounds_toArray, List.set_cons_zero, List.set_cons_succ, Nat.reduceAdd]
        go_wp2_with fail
        refine ⟨rfl, rfl, AT.of_below (by (repeat' (first | (with_reducible exact Below.refl _ _) | (with_reducible assumption) | (with_reducible refine Below.alloc ?_ ?_ _) | (with_reducible refine below_grew ?_ ?_ _) | (with_reducible refine Below.setCell ?_ ?_ _) | (with_reducible refine Below.drew ?_) | (with_reducible refine below_drewN ?_ _) | omega | (simp; done) | (simp; omega)))) hws, ?_⟩
        conv => lhs; whnf
        try rfl
      · exact fun _ => rfl
      simp only [List.nil_append, List.cons_append, Nat.reduceAdd]
      refine wpInv_det (by kernel_rfl) (by kernel_rfl) ?_
      apply Exists.intro
      refine ⟨?_, ?_, ?_⟩
      · intro U W hC hH
        have hws := Nat.le_trans hbs hC.grow.size
        simp only [HypsU, predsOf, Region.binds, List.filterMap_cons, List.filterMap_nil, if_true, List.nil_append, List.cons_append, List.getD_cons_zero, List.getD_cons_succ] at hH
        simp only [fillPuts, Act.put, List.setIfInBounds_toArray, List.set_cons_zero, List.set_cons_succ, Nat.reduceAdd]
        go_wp2_with fail
        refine ⟨rfl, rfl, AT.of_below (by (repeat' (first | (with_reducible exact Below.refl _ _) | (with_reducible assumption) | (with_reducible refine Below.alloc ?_ ?_ _) | (with_reducible refine below_grew ?_ ?_ _) | (with_reducible refine Below.setCell ?_ ?_ _) | (with_reducible refine Below.drew ?_) | (with_reducible refine below_drewN ?_ _) | omega | (simp; done) | (simp; omega)))) hws, ?_⟩
        conv => lhs; whnf
        try rfl
      · exact fun _ => rfl
      simp only [List.nil_append, List.cons_append, Nat.reduceAdd]
      refine wpInv_det (by kernel_rfl) (by kernel_rfl) ?_
      apply Exists.intro
      refine ⟨?_, ?_, ?_⟩
      · intro U W hC hH
        have hws := Nat.le_trans hbs hC.grow.size
        simp only [HypsU, predsOf, Region.binds, List.filterMap_cons, List.filterMap_nil, if_true, List.nil_append, List.cons_append, List.getD_cons_zero, List.getD_cons_succ] at hH
        simp only [fillPuts, Act.put, List.setIfInBounds_toArray, List.set_cons_zero, List.set_cons_succ, Nat.reduceAdd]
        go_wp2_with fail
        refine ⟨rfl, rfl, AT.of_below (by (repeat' (first | (with_reducible exact Below.refl _ _) | (with_reducible assumption) | (with_reducible refine Below.alloc ?_ ?_ _) | (with_reducible refine below_grew ?_ ?_ _) | (with_reducible refine Below.setCell ?_ ?_ _) | (with_reducible refine Below.drew ?_) | (with_reducible refine below_drewN ?_ _) | omega | (simp; done) | (simp; omega)))) hws, ?_⟩
        conv => lhs; whnf
        try rfl
      · exact fun _ => rfl
      simp only [List.nil_append, List.cons_append, Nat.reduceAdd]
      refine wpInv_det (by kernel_rfl) (by kernel_rfl) ?_
      apply Exists.intro
      refine ⟨?_, ?_, ?_⟩
      · intro U W hC hH
        have hws := Nat.le_trans hbs hC.grow.size
        simp only [HypsU, predsOf, Region.binds, List.filterMap_cons, List.filterMap_nil, if_true, List.nil_append, List.cons_append, List.getD_cons_zero, List.getD_cons_succ] at hH
        simp only [fillPuts, Act.put, List.setIfInBounds_toArray, List.set_cons_zero, List.set_cons_succ, Nat.reduceAdd]
        go_wp2_with fail
        refine ⟨rfl, rfl, AT.of_below (by (repeat' (first | (with_reducible exact Below.refl _ _) | (with_reducible assumption) | (with_reducible refine Below.alloc ?_ ?_ _) | (with_reducible refine below_grew ?_ ?_ _) | (with_reducible refine Below.setCell ?_ ?_ _) | (with_reducible refine Below.drew ?_) | (with_reducible refine below_drewN ?_ _) | omega | (simp; done) | (simp; omega)))) hws, ?_⟩
        conv => lhs; whnf
        try rfl
      · exact fun _ => rfl
      simp only [List.nil_append, List.cons_append, Nat.reduceAdd]
      refine wpInv_det (by kernel_rfl) (by kernel_rfl) ?_
      apply Exists.intro
      refine ⟨?_, ?_, ?_⟩
      · intro U W hC hH
        have hws := Nat.le_trans hbs hC.grow.size
        simp only [HypsU, predsOf, Region.binds, List.filterMap_cons, List.filterMap_nil, if_true, List.nil_append, List.cons_append, List.getD_cons_zero, List.getD_cons_succ] at hH
        simp only [fillPuts, Act.put, List.setIfInBounds_toArray, List.set_cons_zero, List.set_cons_succ, Nat.reduceAdd]
        go_wp2_with fail; refine (HTU.out _ _ (HC.out.below (HB.out.trans (hC.below.mono hpw1)))).mono ?_; rintro e w' ⟨rfl, hb1⟩; obtain ⟨x1, rfl⟩ := below_as_grew hb1; clear hb1; go_wp2_with fail
        refine ⟨rfl, rfl, AT.of_below (by (repeat' (first | (with_reducible exact Below.refl _ _) | (with_reducible assumption) | (with_reducible refine Below.alloc ?_ ?_ _) | (with_reducible refine below_grew ?_ ?_ _) | (with_reducible refine Below.setCell ?_ ?_ _) | (with_reducible refine Below.drew ?_) | (with_reducible refine below_drewN ?_ _) | omega | (simp; done) | (simp; omega)))) hws, ?_⟩
        conv => lhs; whnf
        try rfl
      · exact fun _ => rfl
      simp only [List.nil_append, List.cons_append, Nat.reduceAdd]
      obtain ⟨T, hT⟩ : ∃ T : Int × Int, T = turnF ((k : Int) * 128 / (n : Int)) := ⟨_, rfl⟩
      have HTT := Lib.hid hT
      refine ⟨fun U W => ∃ q, U 10 = .slice (some ⟨q, 0, none⟩) 1 1 ∧ wr.heap.size ≤ q ∧ W.heap[q]? = some (.cells #[.int .i64 T.1, .int .i64 T.2] 49 (0, 0)), fun _ _ => rfl, ?_, ?_, ?_⟩
      · rintro U W W' hC hT ⟨q, h0, hq, hqc⟩
        exact ⟨q, h0, hq, (hT.grow.block q (Array.getElem?_eq_some_iff.1 hqc).1 (fun e => by have := (own_lt' HR.out q e.symm).2; omega)).trans hqc⟩
      · intro U W hC hH
        have hws := Nat.le_trans hbs hC.grow.size
        simp only [HypsU, predsOf, Region.binds, List.filterMap_cons, List.filterMap_nil, if_true, List.nil_append, List.cons_append, List.getD_cons_zero, List.getD_cons_succ] at hH
        simp only [fillPuts, Act.put, List.setIfInBounds_toArray, List.set_cons_zero, List.set_cons_succ, Nat.reduceAdd]
        go_wp2_with fail
        rw [← hT]
        refine ⟨rfl, rfl, AT.of_below (by (repeat' (first | (with_reducible exact Below.refl _ _) | (with_reducible assumption) | (with_reducible refine Below.alloc ?_ ?_ _) | (with_reducible refine below_grew ?_ ?_ _) | (with_reducible refine Below.setCell ?_ ?_ _) | (with_reducible refine Below.drew ?_) | (with_reducible refine below_drewN ?_ _) | omega | (simp; done) | (simp; omega)))) hws, ⟨_, updU_eq _ _ _, hC.grow.size, alloc_at _ _⟩, fun h => by cases h⟩
      clear hT
      simp only [List.nil_append, List.cons_append, Nat.reduceAdd]
      refine ⟨fun U W => ∃ g c, U 11 = .slice (some ⟨g, 0, none⟩) (k + 1) c ∧ W.ownsRow (db + 1) 49 2 (.slice (some ⟨g, 0, none⟩) (k + 1) c) (k + 1) (turns2 n (k + 1)), fun _ _ => rfl, ?_, ?_, ?_⟩
      · rintro U W W' hC hT ⟨g, c, h0, ho⟩
        exact ⟨g, c, h0, hT.keep _ _ (Nat.le_refl _) ho⟩
      · intro U W hC hH
        have hws := Nat.le_trans hbs hC.grow.size
        simp only [HypsU, predsOf, Region.binds, List.filterMap_cons, List.filterMap_nil, if_true, List.nil_append, List.cons_append, List.getD_cons_zero, List.getD_cons_succ] at hH
        simp only [fillPuts, Act.put, List.setIfInBounds_toArray, List.set_cons_zero, List.set_cons_succ, Nat.reduceAdd]
        obtain ⟨h4, ⟨q, h10, hq, hqc⟩, -⟩ := hH
        simp only [h4, h10]
        have hRW := hC.keep tv k (by omega) HR.out
        refine append_at rfl _ _ 32 rfl (db + 1) 49 49 (.agg #[.int .i64 0, .int .i64 0]) 2 16 Tryd.underlying32 pairInfo rfl (by decide) tv k (turns2 n) rfl hRW q [_, _] rfl hqc rfl ?h1 ?h63 ?hby hws ?htn ?_
        (case h1 => simp [Value.oneCell']; done)
        (case h63 => exact maxLen_le (by omega))
        (case hby => omega)
        (case htn => rw [turns2_succ, HTT.out])
        intro g' c' w' hR' hAT
        refine ⟨rfl, rfl, hAT, ⟨g', c', updU_eq _ _ _, hR'⟩, fun h => by cases h⟩
      simp only [List.nil_append, List.cons_append, Nat.reduceAdd, fillPuts, Act.put, List.setIfInBounds_toArray, List.set_cons_zero, List.set_cons_succ]
      rintro U W hC ⟨h0, h1, h2, h3, h4, h5, h6, h7, h8, h9, -, ⟨g', c', h11, hR'⟩, -⟩ -
      simp only [h0, h1, h2, h3, h4, h5, h6, h7, h8, h9, h11]
      clear h0 h1 h2 h3 h4 h5 h6 h7 h8 h9 h11
      have hc2 : W.heap[db]? = some (.cells #[.pointer (some ⟨pb, 0, none⟩), .slice (some ⟨zb, 0, none⟩) h h, .slice (some ⟨gb, 0, none⟩) h h, tv] DctT (0, 0)) := (hC.below.block db hop1).trans HCC.out
      have hB2 : Below w.heap.size w W := HB.out.trans (hC.below.mono hpw1)
      have hbd2 : Below db V W := HBD.out.trans (hC.below.mono (by omega))
      obtain ⟨v', hv'⟩ : ∃ v', v' = Value.slice (some ⟨g', 0, none⟩) (k + 1) c' := ⟨_, rfl⟩
      rw [← hv'] at hR'
      have hcl2 := (block_facts hc2).1 3
      have hfz2 := (block_facts hc2).2.1 3
      have hO := only_setCell W ⟨db, 3, none⟩ v'
      have hc3 := setCell_own W db 3 _ _ _ v' hc2
      have hR3 := own_only hR' hO (by show db < db + 1; omega)
      have hB3 := hO.below hbd2 (Nat.le_refl _)
      have hRX : (W.setCell ⟨db, 3, none⟩ v').ownsRow (db + 1) 49 2 v' (k + 1) (turns2 n (k + 1)) := hR3
      have HF := Lib.hid (And.intro hc3 (And.intro hRX hB3))
      clear hc3 hR3 hB3 hRX hO hbd2 hB2 hc2 hR' hC
      subst hv'
      go_wp2_with fail
      refine ⟨⟨k + 1, by omega, by go_num, _, HF.out.1, HF.out.2.1, HF.out.2.2⟩, ?_⟩
      simp only [intOf]
      omega
    · obtain rfl : h = k := by omega
      have hlt' : ¬ (h : Int) < (h : Int) := by omega
      go_wp2_with fail
      go_ret2
      have hn := HN.out
      have hh := HH.out
      subst hn
      subst hh
      obtain ⟨p1, p2, p3⟩ := HPD.out
      refine ⟨db, rfl, zb, hzw.1, gb, hzw.2, ⟨pb, ob, tvp, tv, ?_⟩, HB.out⟩
      exact ⟨HCC.out, ⟨_, (HBD.out.block zb hzl).trans HZV.out⟩, ⟨_, (HBD.out.block gb hgl).trans HGV.out⟩, HPV.out.low HBD.out p1 p2 p3, own_mono HR.out (Nat.zero_le _), by omega, by omega, hzg, HPZ.out, HTZ.out,
        ⟨fun e => by have := (own_lt' HR.out zb e.symm).1; omega, fun e => by have := (own_lt' HR.out gb e.symm).1; omega⟩⟩
end Go.Proofs.YtcibajleknhklaaDoor
end

section
namespace Go.Proofs.YtcibajleknhklaaDoor
open Go.RowKit Go.BigFrame Go.Proofs.YtcibajleknhklaaDoorW.PrintWords Go.Proofs.YtcibajleknhklaaDoorW.PrintLast Go.Proofs.YtcibajleknhklaaDoorW.PrintMore
set_option linter.unusedSimpArgs false
set_option linter.unusedVariables false
/-- Some blocks have been written, and blocks have been made. -/
structure Upd3 (a b c : Nat) (w w' : World) : Prop where
  os : w'.os = w.os
  tape : w'.tape = w.tape
  output : w'.output = w.output
  size : w.heap.size ≤ w'.heap.size
  block : ∀ k, k < w.heap.size → k ≠ a → k ≠ b → k ≠ c → w'.heap[k]? = w.heap[k]?
theorem Upd3.refl (a b c : Nat) (w : World) : Upd3 a b c w w := ⟨rfl, rfl, rfl, Nat.le_refl _, fun _ _ _ _ _ => rfl⟩
theorem Upd3.trans {a b c : Nat} {w w1 w2 : World} (h : Upd3 a b c w w1) (k : Upd3 a b c w1 w2) : Upd3 a b c w w2 :=
  ⟨k.os.trans h.os, k.tape.trans h.tape, k.output.trans h.output, Nat.le_trans h.size k.size, fun i hi h1 h2 h3 => (k.block i (Nat.lt_of_lt_of_le hi h.size) h1 h2 h3).trans (h.block i hi h1 h2 h3)⟩
theorem Upd3.of {a b c : Nat} {w w1 : World} {x : Nat} (h : Upd x w w1) (hx : x = a ∨ x = b ∨ x = c) : Upd3 a b c w w1 :=
  ⟨h.os, h.tape, h.output, h.size, fun i hi h1 h2 h3 => h.block i hi (by rcases hx with e | e | e <;> omega)⟩
theorem Upd3.of_below {a b c : Nat} {w w1 : World} (h : Below w.heap.size w w1) : Upd3 a b c w w1 := ⟨h.os, h.tape, h.output, h.size, fun k hk _ _ _ => h.block k hk⟩
theorem Upd3.below {a b c B : Nat} {w0 w w1 : World} (h : Upd3 a b c w w1) (hb : Below B w0 w) (hB : B ≤ w.heap.size) (h1 : B ≤ a) (h2 : B ≤ b) (h3 : B ≤ c) : Below B w0 w1 :=
  hb.trans ⟨h.os, h.tape, h.output, h.size, fun k hk => h.block k (by omega) (by omega) (by omega) (by omega)⟩
/-- The first k pairs have been written. -/
def zF (P : Nat → Int × Int) (f : Nat → Int) (k : Nat) (i : Nat) : Int := if i / 2 < k then (if i % 2 = 0 then (P (i / 2)).1 else (P (i / 2)).2) else f i
theorem zF_step (P : Nat → Int × Int) (f : Nat → Int) (k i : Nat) : updI (updI (zF P f k) (k * 2) (P k).1) (k * 2 + 1) (P k).2 i = zF P f (k + 1) i := by
  unfold updI
  by_cases a : i = k * 2 + 1
  · subst a
    rw [if_pos rfl]
    unfold zF
    rw [if_pos (by omega), if_neg (by omega), show (k * 2 + 1) / 2 = k from by omega]
  · rw [if_neg a]
    by_cases b : i = k * 2
    · subst b
      rw [if_pos rfl]
      unfold zF
      rw [if_pos (by omega), if_pos (by omega), show k * 2 / 2 = k from by omega]
    · rw [if_neg b]
      unfold zF
      by_cases c : i / 2 < k
      · rw [if_pos c, if_pos (show i / 2 < k + 1 by omega)]
      · rw [if_neg c, if_neg (show ¬ i / 2 < k + 1 by omega)]
/-- The first k sums have been put over d. -/
def putOn (s : Nat) (x d : Nat → Int) (k : Nat) (i : Nat) : Int := if i % 2 = 0 then (if i / 2 < k then dctF s x i else d i) else (if (2 ^ (s + 1) - 1 - i) / 2 < k then dctF s x i else d i)
theorem putOn_step (s : Nat) (x d : Nat → Int) (k : Nat) (hk : k < 2 ^ s) (i : Nat) (hi : i < 2 ^ (s + 1)) :
    updI (updI (putOn s x d k) (2 * k) (clamp32 (rnd (dctSh s) (dctY s x k).1))) (2 ^ (s + 1) - 1 - 2 * k) (clamp32 (rnd (dctSh s) (-(dctY s x k).2))) i = putOn s x d (k + 1) i := by
  have hn : 2 ^ (s + 1) = 2 ^ s + 2 ^ s := by rw [Nat.pow_succ]; omega
  have hev : 2 ^ s % 2 = 0 ∨ 2 ^ s = 1 := by
    rcases Nat.eq_zero_or_pos s with e | e
    · subst e; exact .inr rfl
    · left
      obtain ⟨t, rfl⟩ : ∃ t, s = t + 1 := ⟨s - 1, by omega⟩
      rw [Nat.pow_succ]; omega
  unfold updI
  by_cases a : i = 2 ^ (s + 1) - 1 - 2 * k
  · rw [if_pos a]
    unfold putOn dctF
    rw [if_neg (by omega), if_pos (by omega), if_neg (by omega), show (2 ^ (s + 1) - 1 - i) / 2 = k from by omega]
  · rw [if_neg a]
    by_cases b : i = 2 * k
    · rw [if_pos b]
      unfold putOn dctF
      rw [if_pos (by omega), if_pos (by omega), if_pos (by omega), show i / 2 = k from by omega]
    · rw [if_neg b]
      unfold putOn
      by_cases c : i % 2 = 0
      · rw [if_pos c, if_pos c]
        by_cases d : i / 2 < k
        · rw [if_pos d, if_pos (by omega)]
        · rw [if_neg d, if_neg (by omega)]
      · rw [if_neg c, if_neg c]
        by_cases d : (2 ^ (s + 1) - 1 - i) / 2 < k
        · rw [if_pos d, if_pos (by omega)]
        · rw [if_neg d, if_neg (by omega)]
theorem putOn_all (s : Nat) (x d : Nat → Int) (i : Nat) (hi : i < 2 ^ (s + 1)) : putOn s x d (2 ^ s) i = dctF s x i := by
  have hn : 2 ^ (s + 1) = 2 ^ s + 2 ^ s := by rw [Nat.pow_succ]; omega
  unfold putOn
  by_cases c : i % 2 = 0
  · rw [if_pos c, if_pos (by omega)]
  · rw [if_neg c, if_pos (by omega)]
theorem own_same {w w' : World} {base : Nat} {e : TypeId} {size n : Nat} {v : Value} {xs : List Value} (h : w.ownsRow base e size v n xs) (hb : ∀ k, v.ownBlock = some k → w'.heap[k]? = w.heap[k]?) : w'.ownsRow base e size v n xs := by
  obtain ⟨a, b | ⟨g', cap, cur, b1, b2, b3, b4⟩⟩ := h
  · exact ⟨a, .inl b⟩
  · exact ⟨a, .inr ⟨g', cap, cur, b1, b2, (hb g' (by rw [b1]; rfl)).trans b3, b4⟩⟩
theorem turns2_len (n : Nat) : ∀ m, (turns2 n m).length = m * 2
  | 0 => rfl
  | m + 1 => by rw [turns2_succ, List.length_append, turns2_len n m]; simp; omega
theorem turns2_get (n : Nat) : ∀ m k, k < m → (turns2 n m)[k * 2]? = some (.int .i64 (turnF ((k * 128 / n : Nat) : Int)).1) ∧ (turns2 n m)[k * 2 + 1]? = some (.int .i64 (turnF ((k * 128 / n : Nat) : Int)).2)
  | 0, k, h => by omega
  | m + 1, k, h => by
    have hl := turns2_len n m
    have e : ((m * 128 / n : Nat) : Int) = (m : Int) * 128 / (n : Int) := by simp
    rw [turns2_succ]
    rcases Nat.lt_or_ge k m with h1 | h1
    · obtain ⟨a, b⟩ := turns2_get n m k h1
      rw [List.getElem?_append_left (by omega), List.getElem?_append_left (by omega)]
      exact ⟨a, b⟩
    · obtain rfl : k = m := by omega
      rw [List.getElem?_append_right (by omega), List.getElem?_append_right (by omega), hl, Nat.sub_self, show k * 2 + 1 - k * 2 = 1 from by omega, e]
      exact ⟨rfl, rfl⟩
set_option maxHeartbeats 400000 in
set_option maxRecDepth 100000 in
theorem in_any (s : Nat) (h1 : 2 ≤ s) (h2 : s ≤ 4) (db zb gb pb ob : Nat) (tvp tv : Value) (g N c : Nat) (T : TypeId) (f : Nat → Int) (w0 w : World) (hT : CosW w0) (hB0 : Below w0.heap.size w0 w) (hz0 : w0.heap.size ≤ zb) (hg0 : w0.heap.size ≤ gb) (hgg : w0.heap.size ≤ g)
    (hD : DctR db zb gb pb ob tvp tv s w) (hR : R32 g N (2 ^ (s + 1)) T f w) (h32 : ∀ i, -2147483648 ≤ f i ∧ f i ≤ 2147483647) (hne : g ≠ db ∧ g ≠ zb ∧ g ≠ gb ∧ g ≠ pb ∧ g ≠ ob) (hnt : some g ≠ tvp.ownBlock ∧ some g ≠ tv.ownBlock) :
    Calls Tryd.prog 42 #[.pointer (some ⟨db, 0, none⟩), .slice (some ⟨g, 0, none⟩) (2 ^ (s + 1)) c] w fun e w' => e = .returned (.bool true) ∧ Upd3 zb gb g w w' ∧ R32 g N (2 ^ (s + 1)) T (dctF s f) w' ∧ DctR db zb gb pb ob tvp tv s w' := by
  obtain ⟨dst, ⟨f0, dz⟩, ⟨X0, dg⟩, dpl, down, a1, a2, a3, a4, a5, a6⟩ := hD
  have hpa := fun w hT hb hx j hj => pair_any s h1 h2 g 0 c f w hT hb hx j hj
  have hput := fun fx S tu w hR h64 hy1 hy2 k hk => put_any s h1 h2 g N c T fx S tu w hR h64 hy1 hy2 k hk
  have hpt := putOn_step s f f
  have hpl := putOn_all s f f
  have hyin := fun k => dctY_in s h1 h2 f k h32
  have hzlen := dctZ_len s f
  have hzat := dctZ_at s f
  have hyd : ∀ k, dctY s f k = wmul (sumTo s (dctZ s f) k (2 ^ s)) (turnF ((k * 128 / 2 ^ (s + 1) : Nat) : Int)) := fun k => rfl
  have hip := into_plan s (by omega)
  have hpn : w.cell? ⟨pb, 0, none⟩ = some (.slice (some ⟨ob, 0, none⟩) (2 ^ s) (2 ^ s)) := by rw [(block_facts dpl.st).1]; rfl
  have hs0 : 0 < 2 ^ s := Nat.pow_pos (by decide)
  obtain ⟨tb, tc, htv, -, htl⟩ := own_form down hs0
  have htcell : ∀ k, k < 2 ^ s → w.cell? ⟨tb, k * 2, none⟩ = some (.int .i64 (turnF ((k * 128 / 2 ^ (s + 1) : Nat) : Int)).1) ∧ w.cell? ⟨tb, k * 2 + 1, none⟩ = some (.int .i64 (turnF ((k * 128 / 2 ^ (s + 1) : Nat) : Int)).2) := fun k hk => by
    obtain ⟨a, b⟩ := turns2_get (2 ^ (s + 1)) _ k hk
    have a1 := down.cells (g := tb) (by rw [htv]; rfl) _ _ a
    have b1 := down.cells (g := tb) (by rw [htv]; rfl) _ _ b
    rw [Addr.add_lit, Nat.zero_add] at a1 b1
    exact ⟨a1, b1⟩
  have htz : tb ≠ zb ∧ tb ≠ gb ∧ tb ≠ g := by
    rw [htv] at a6 hnt
    exact ⟨fun e => a6.1 (by rw [e]; rfl), fun e => a6.2 (by rw [e]; rfl), fun e => hnt.2 (by rw [e]; rfl)⟩
  subst htv
  have HDN := Lib.hid (And.intro down (And.intro a5 (And.intro a6 hnt)))
  have HPLAN := Lib.hid dpl
  have hdl := (block_facts dst).2.2
  have hzl := (block_facts dz).2.2
  have hgl := (block_facts dg).2.2
  have hxl := hR.lt
  have hpbl := (block_facts dpl.st).2.2
  obtain ⟨n, hn⟩ : ∃ n : Nat, 2 ^ (s + 1) = n := ⟨_, rfl⟩
  obtain ⟨h, hh⟩ : ∃ h : Nat, 2 ^ s = h := ⟨_, rfl⟩
  have hnh : n = h + h := by rw [← hn, ← hh, Nat.pow_succ]; omega
  have hn8 : 8 ≤ n ∧ n ≤ 32 := by
    rcases dct_s s h1 h2 with rfl | rfl | rfl <;> (rw [← hn]; decide)
  have hh8 : 4 ≤ h ∧ h ≤ 16 := by omega
  have h2n : 2 * (h : Int) = (n : Int) := by omega
  simp only [hn, hh] at hpa hput hpt hpl hyd hip hpn htcell dst dz dg hR hzlen hzat ⊢
  unfold pairAgg at hpa hput
  unfold bigAgg at hput
  simp only [Nat.zero_add] at hpa
  have HPN := Lib.hid (planN_any pb h h (some ⟨ob, 0, none⟩) (by omega) w hpn)
  have HPA := Lib.hid hpa
  have HPU := Lib.hid hput
  have HPT := Lib.hid hpt
  have HPL := Lib.hid hpl
  have HYI := Lib.hid hyin
  have HYD := Lib.hid hyd
  have HIP := Lib.hid hip
  have HTCL := Lib.hid htcell
  have HZA := Lib.hid (And.intro hzlen hzat)
  have HST := Lib.hid dst
  have HZ0 := Lib.hid dz
  have HG0 := Lib.hid dg
  have HR0 := Lib.hid hR
  have HC := Lib.hid hT
  have HB0 := Lib.hid hB0
  have H32 := Lib.hid h32
  have HNS := Lib.hid hn
  have HHS := Lib.hid hh
  have HNH := Lib.hid hnh
  have c0 := (block_facts dst).1 0
  have c1 := (block_facts dst).1 1
  clear hpa hput hpt hpl hyin hyd hip hpn htcell hzlen hzat dst dz dg hR hT hB0 h32 hn hh hnh down a5 a6 hnt dpl hs0
  have w1' : (2 * (h : Int) + 9223372036854775808) % 18446744073709551616 - 9223372036854775808 = 2 * (h : Int) := by omega
  have w2' : ((n : Int) + 9223372036854775808) % 18446744073709551616 - 9223372036854775808 = (n : Int) := by omega
  have hnn : ((n : Int) != (n : Int)) = false := by simp
  go_enter Tryd.func42, Tryd.ntmps42
  go_wp2_with fail
  refine HPN.out.mono ?_
  rintro e w1 ⟨rfl, hb1⟩
  have HB1 := Lib.hid hb1
  have d1 := (cell_blk (hb1.block db hdl) 1).trans c1
  have hdl1 := Nat.lt_of_lt_of_le hdl hb1.size
  clear hb1 c0 c1
  go_wp2_with fail
  have hz1 := HZ0.out.keep HB1.out
  go_loopw [22] (fun cnt wr => ∃ k : Nat, k ≤ h ∧ cnt = .int .i64 k ∧ Bx zb 49 kI (h * 2) (zF (dctPair n f) f0 k) wr ∧ Upd zb w wr) (fun cnt _ => h - (intOf cnt).toNat)
  case atStart => exact ⟨0, by omega, rfl, by
    have hz := hz1
    unfold Bx at hz ⊢
    rw [ag_ext kI (h * 2) (zF (dctPair n f) f0 0) f0 (fun j _ => by unfold zF; rw [if_neg (by omega)])]
    exact hz, Upd.of_below HB1.out⟩
  case round =>
    clear hz1 d1 HB1
    obtain ⟨k, hk, rfl, hz, hu⟩ := hrel
    have hcd : wr.heap[db]? = some (.cells #[.pointer (some ⟨pb, 0, none⟩), .slice (some ⟨zb, 0, none⟩) h h, .slice (some ⟨gb, 0, none⟩) h h, .slice (some ⟨tb, 0, none⟩) h tc] DctT (0, 0)) := (hu.block db hdl a1).trans HST.out
    have d0 := (block_facts hcd).1 0
    have d1 := (block_facts hcd).1 1
    have d2 := (block_facts hcd).1 2
    have d3 := (block_facts hcd).1 3
    have hdlr := (block_facts hcd).2.2
    have hzlr := (block_facts hz).2.2
    have hTr : CosW wr := HC.out.below (HB0.out.trans ⟨hu.os, hu.tape, hu.output, hu.size, fun i hi => hu.block i (by have := HB0.out.size; omega) (by omega)⟩)
    have hRr := HR0.out.block (hu.block g hxl hne.2.1)
    have hgg2 := hRr.lt
    have HUR := Lib.hid hu
    have HZR := Lib.hid hz
    have HTR := Lib.hid hTr
    have HRR := Lib.hid hRr
    have HCD := Lib.hid hcd
    clear hu hz hTr hRr hcd
    by_cases hlt : k < h
    · have hlt' : (k : Int) < h := by omega
      have hk0 : (0 : Int) ≤ k := by omega
      have HPK := Lib.hid (fun w hT hb hx => HPA.out w hT hb hx k hlt)
      obtain ⟨P, hP⟩ : ∃ P, dctPair n f k = P := ⟨_, rfl⟩
      rw [hP] at HPK
      have HPP := Lib.hid hP
      clear hP
      go_wp2_with fail
      refine wp_region_inv [] (fun W => Below wr.heap.size wr W) (fun W W' => Below W.heap.size W W') 8 (by kernel_rfl) (by kernel_rfl) (by kernel_rfl) ((Below.refl _ _).drew) (fun W W' h h' => h.trans (h'.mono h.size)) (fun _ _ h => h.size) ?_
      simp only [List.take_succ_cons, List.take_zero, List.drop_succ_cons, List.drop_zero]
      refine wpInv_det (by kernel_rfl) (by kernel_rfl) ?_
      apply Exists.intro
      refine ⟨?_, ?_, ?_⟩
      · intro U W hC hH
        have hc1 := (bcell hC).1
        have hf1 := (bcell hC).2
        simp only [HypsU, predsOf, Region.binds, List.filterMap_cons, List.filterMap_nil, if_true, List.nil_append, List.cons_append, List.getD_cons_zero, List.getD_cons_succ] at hH
        simp only [fillPuts, Act.put, List.setIfInBounds_toArray, List.set_cons_zero, List.set_cons_succ, Nat.reduceAdd]
        go_wp2_with fail
        refine ⟨rfl, rfl, by (repeat' (first | (with_reducible exact Below.refl _ _) | (with_reducible assumption) | (with_reducible refine Below.alloc ?_ ?_ _) | (with_reducible refine below_grew ?_ ?_ _) | (with_reducible refine Below.setCell ?_ ?_ _) | (with_reducible refine Below.drew ?_) | (with_reducible refine below_drewN ?_ _) | omega | (simp; done) | (simp; omega))), ?_⟩
        conv => lhs; whnf
        try rfl
      · exact fun _ => rfl
      simp only [List.nil_append, List.cons_append, Nat.reduceAdd]
      refine wpInv_det (by kernel_rfl) (by kernel_rfl) ?_
      apply Exists.intro
      refine ⟨?_, ?_, ?_⟩
      · intro U W hC hH
        have hc1 := (bcell hC).1
        have hf1 := (bcell hC).2
        simp only [HypsU, predsOf, Region.binds, List.filterMap_cons, List.filterMap_nil, if_true, List.nil_append, List.cons_append, List.getD_cons_zero, List.getD_cons_succ] at hH
        simp only [fillPuts, Act.put, List.setIfInBounds_toArray, List.set_cons_zero, List.set_cons_succ, Nat.reduceAdd]
        go_wp2_with fail
        refine ⟨rfl, rfl, by (repeat' (first | (with_reducible exact Below.refl _ _) | (with_reducible assumption) | (with_reducible refine Below.alloc ?_ ?_ _) | (with_reducible refine below_grew ?_ ?_ _) | (with_reducible refine Below.setCell ?_ ?_ _) | (with_reducible refine Below.drew ?_) | (with_reducible refine below_drewN ?_ _) | omega | (simp; done) | (simp; omega))), ?_⟩
        conv => lhs; whnf
        try rfl
      · exact fun _ => rfl
      simp only [List.nil_append, List.cons_append, Nat.reduceAdd]
      refine wpInv_det (by kernel_rfl) (by kernel_rfl) ?_
      apply Exists.intro
      refine ⟨?_, ?_, ?_⟩
      · intro U W hC hH
        have hc1 := (bcell hC).1
        have hf1 := (bcell hC).2
        simp only [HypsU, predsOf, Region.binds, List.filterMap_cons, List.filterMap_nil, if_true, List.nil_append, List.cons_append, List.getD_cons_zero, List.getD_cons_succ] at hH
        simp only [fillPuts, Act.put, List.setIfInBounds_toArray, List.set_cons_zero, List.set_cons_succ, Nat.reduceAdd]
        go_wp2_with fail
        refine ⟨rfl, rfl, by (repeat' (first | (with_reducible exact Below.refl _ _) | (with_reducible assumption) | (with_reducible refine Below.alloc ?_ ?_ _) | (with_reducible refine below_grew ?_ ?_ _) | (with_reducible refine Below.setCell ?_ ?_ _) | (with_reducible refine Below.drew ?_) | (with_reducible refine below_drewN ?_ _) | omega | (simp; done) | (simp; omega))), ?_⟩
        conv => lhs; whnf
        try rfl
      · exact fun _ => rfl
      simp only [List.nil_append, List.cons_append, Nat.reduceAdd]
      refine wpInv_det (by kernel_rfl) (by kernel_rfl) ?_
      apply Exists.intro
      refine ⟨?_, ?_, ?_⟩
      · intro U W hC hH
        have hc1 := (bcell hC).1
        have hf1 := (bcell hC).2
        simp only [HypsU, predsOf, Region.binds, List.filterMap_cons, List.filterMap_nil, if_true, List.nil_append, List.cons_append, List.getD_cons_zero, List.getD_cons_succ] at hH
        simp only [fillPuts, Act.put, List.setIfInBounds_toArray, List.set_cons_zero, List.set_cons_succ, Nat.reduceAdd]
        go_wp2_with fail
        refine ⟨rfl, rfl, by (repeat' (first | (with_reducible exact Below.refl _ _) | (with_reducible assumption) | (with_reducible refine Below.alloc ?_ ?_ _) | (with_reducible refine below_grew ?_ ?_ _) | (with_reducible refine Below.setCell ?_ ?_ _) | (with_reducible refine Below.drew ?_) | (with_reducible refine below_drewN ?_ _) | omega | (simp; done) | (simp; omega))), ?_⟩
        conv => lhs; whnf
        try rfl
      · exact fun _ => rfl
      simp only [List.nil_append, List.cons_append, Nat.reduceAdd]
      refine wpInv_det (by kernel_rfl) (by kernel_rfl) ?_
      apply Exists.intro
      refine ⟨?_, ?_, ?_⟩
      · intro U W hC hH
        have hc1 := (bcell hC).1
        have hf1 := (bcell hC).2
        simp only [HypsU, predsOf, Region.binds, List.filterMap_cons, List.filterMap_nil, if_true, List.nil_append, List.cons_append, List.getD_cons_zero, List.getD_cons_succ] at hH
        simp only [fillPuts, Act.put, List.setIfInBounds_toArray, List.set_cons_zero, List.set_cons_succ, Nat.reduceAdd]
        go_wp2_with fail
        refine ⟨rfl, rfl, by (repeat' (first | (with_reducible exact Below.refl _ _) | (with_reducible assumption) | (with_reducible refine Below.alloc ?_ ?_ _) | (with_reducible refine below_grew ?_ ?_ _) | (with_reducible refine Below.setCell ?_ ?_ _) | (with_reducible refine Below.drew ?_) | (with_reducible refine below_drewN ?_ _) | omega | (simp; done) | (simp; omega))), ?_⟩
        conv => lhs; whnf
        try rfl
      · exact fun _ => rfl
      simp only [List.nil_append, List.cons_append, Nat.reduceAdd]
      refine wpInv_det (by kernel_rfl) (by kernel_rfl) ?_
      apply Exists.intro
      refine ⟨?_, ?_, ?_⟩
      · intro U W hC hH
        have hc1 := (bcell hC).1
        have hf1 := (bcell hC).2
        simp only [HypsU, predsOf, Region.binds, List.filterMap_cons, List.filterMap_nil, if_true, List.nil_append, List.cons_append, List.getD_cons_zero, List.getD_cons_succ] at hH
        simp only [fillPuts, Act.put, List.setIfInBounds_toArray, List.set_cons_zero, List.set_cons_succ, Nat.reduceAdd]
        go_wp2_with fail
        refine ⟨rfl, rfl, by (repeat' (first | (with_reducible exact Below.refl _ _) | (with_reducible assumption) | (with_reducible refine Below.alloc ?_ ?_ _) | (with_reducible refine below_grew ?_ ?_ _) | (with_reducible refine Below.setCell ?_ ?_ _) | (with_reducible refine Below.drew ?_) | (with_reducible refine below_drewN ?_ _) | omega | (simp; done) | (simp; omega))), ?_⟩
        conv => lhs; whnf
        try rfl
      · exact fun _ => rfl
      simp only [List.nil_append, List.cons_append, Nat.reduceAdd]
      refine wpInv_det (by kernel_rfl) (by kernel_rfl) ?_
      apply Exists.intro
      refine ⟨?_, ?_, ?_⟩
      · intro U W hC hH
        have hc1 := (bcell hC).1
        have hf1 := (bcell hC).2
        simp only [HypsU, predsOf, Region.binds, List.filterMap_cons, List.filterMap_nil, if_true, List.nil_append, List.cons_append, List.getD_cons_zero, List.getD_cons_succ] at hH
        simp only [fillPuts, Act.put, List.setIfInBounds_toArray, List.set_cons_zero, List.set_cons_succ, Nat.reduceAdd]
        go_wp2_with fail
        refine ⟨rfl, rfl, by (repeat' (first | (with_reducible exact Below.refl _ _) | (with_reducible assumption) | (with_reducible refine Below.alloc ?_ ?_ _) | (with_reducible refine below_grew ?_ ?_ _) | (with_reducible refine Below.setCell ?_ ?_ _) | (with_reducible refine Below.drew ?_) | (with_reducible refine below_drewN ?_ _) | omega | (simp; done) | (simp; omega))), ?_⟩
        conv => lhs; whnf
        try rfl
      · exact fun _ => rfl
      simp only [List.nil_append, List.cons_append, Nat.reduceAdd]
      refine wpInv_det (by kernel_rfl) (by kernel_rfl) ?_
      apply Exists.intro
      refine ⟨?_, ?_, ?_⟩
      · intro U W hC hH
        have hc1 := (bcell hC).1
        have hf1 := (bcell hC).2
        simp only [HypsU, predsOf, Region.binds, List.filterMap_cons, List.filterMap_nil, if_true, List.nil_append, List.cons_append, List.getD_cons_zero, List.getD_cons_succ] at hH
        simp only [fillPuts, Act.put, List.setIfInBounds_toArray, List.set_cons_zero, List.set_cons_succ, Nat.reduceAdd]
        go_wp2_with fail; refine (HPK.out _ (HTR.out.below hC) (Nat.lt_of_lt_of_le hgg2 hC.size) (fun i hi => ⟨((HRR.out.keep hC).cell i hi).1, H32.out i⟩)).mono ?_; rintro e w' ⟨rfl, hb1⟩; obtain ⟨x1, rfl⟩ := below_as_grew hb1; clear hb1; go_wp2_with fail
        refine ⟨rfl, rfl, by (repeat' (first | (with_reducible exact Below.refl _ _) | (with_reducible assumption) | (with_reducible refine Below.alloc ?_ ?_ _) | (with_reducible refine below_grew ?_ ?_ _) | (with_reducible refine Below.setCell ?_ ?_ _) | (with_reducible refine Below.drew ?_) | (with_reducible refine below_drewN ?_ _) | omega | (simp; done) | (simp; omega))), ?_⟩
        conv => lhs; whnf
        try rfl
      · exact fun _ => rfl
      simp only [List.nil_append, List.cons_append, Nat.reduceAdd]
      simp only [List.nil_append, List.cons_append, Nat.reduceAdd, fillPuts, Act.put, List.setIfInBounds_toArray, List.set_cons_zero, List.set_cons_succ]
      rintro U W hC ⟨h0, h1', h2', h3, h4, h5, h6, h7, -⟩ -
      simp only [h0, h1', h2', h3, h4, h5, h6, h7]
      clear h0 h1' h2' h3 h4 h5 h6 h7 d0 d1 d2 d3
      have hZ := HZR.out.keep hC
      have c0 := ag_cell hZ (k * 2) (by omega)
      have c1 := ag_cell hZ (k * 2 + 1) (by omega)
      have f0' := (block_facts hZ).2.1 (k * 2)
      have f1' := (block_facts hZ).2.1 (k * 2 + 1)
      have q1 := ag_store hZ (k * 2) (by omega) P.1
      have q2 := ag_store q1 (k * 2 + 1) (by omega) P.2
      simp only [kI] at c0 c1 q1 q2
      have hst := zF_step (dctPair n f) f0 k
      rw [HPP.out] at hst
      have hq : Bx zb 49 kI (h * 2) (zF (dctPair n f) f0 (k + 1)) ((W.setCell ⟨zb, k * 2, none⟩ (.int .i64 P.1)).setCell ⟨zb, k * 2 + 1, none⟩ (.int .i64 P.2)) := by
        unfold Bx
        rw [← ag_ext kI (h * 2) _ _ (fun j _ => hst j)]
        exact q2
      have HQ := Lib.hid hq
      have HUW := Lib.hid ((HUR.out.trans (Upd.of_below hC)).trans (Upd.of_only ((only_setCell W ⟨zb, k * 2, none⟩ (.int .i64 P.1)).setCell (p := ⟨zb, k * 2 + 1, none⟩) (.int .i64 P.2))))
      have hzw := (block_facts hZ).2.2
      clear q1 q2 hst hq hZ hC
      go_wp2_with fail
      exact ⟨⟨k + 1, by omega, by go_num, HQ.out, HUW.out⟩, by simp only [intOf]; omega⟩
    · obtain rfl : h = k := by omega
      have hlt' : ¬ (h : Int) < h := by omega
      have h1d : g ≠ db := hne.1
      have hPL := HPLAN.out.upd HUR.out a4.1 a4.2.2.1 HDN.out.2.1.1
      have HPL2 := Lib.hid hPL
      have hBG := (HUR.out.block gb hgl (Ne.symm a3)).trans HG0.out
      have HBG := Lib.hid (show BigW gb h X0 wr from hBG)
      have hzc : ∀ j, j < h → wr.cell? ⟨zb, j * 2, none⟩ = some (.int .i64 ((dctZ s f).getD j (0, 0)).1) ∧ wr.cell? ⟨zb, j * 2 + 1, none⟩ = some (.int .i64 ((dctZ s f).getD j (0, 0)).2) := fun j hj => by
        rw [HZA.out.2 j hj]
        have e0 := ag_cell HZR.out (j * 2) (by omega)
        have e1 := ag_cell HZR.out (j * 2 + 1) (by omega)
        unfold zF at e0 e1
        rw [if_pos (by omega), if_pos (by omega), show j * 2 / 2 = j from by omega] at e0
        rw [if_pos (by omega), if_neg (by omega), show (j * 2 + 1) / 2 = j from by omega] at e1
        exact ⟨e0, e1⟩
      have HZCC := Lib.hid hzc
      have HTBU := Lib.hid (HUR.out.block tb htl htz.1)
      clear hPL hBG hzc
      go_upto_region 8 with fail
      clear hlt' hlt hk
      simp only [List.getElem?_toArray, List.getElem?_cons_zero, List.getElem?_cons_succ] at d0 d1 d2 d3
      refine wp_region_inv [] (fun W => Below wr.heap.size wr W) (fun W W' => Below W.heap.size W W') 12 (by kernel_rfl) (by kernel_rfl) (by kernel_rfl) ((Below.refl _ _).drew) (fun W W' h h' => h.trans (h'.mono h.size)) (fun _ _ h => h.size) ?_
      simp only [List.take_succ_cons, List.take_zero, List.drop_succ_cons, List.drop_zero]
      refine wpInv_det (by kernel_rfl) (by kernel_rfl) ?_
      apply Exists.intro
      refine ⟨?_, ?_, ?_⟩
      · intro U W hC hH
        have hc1 := (bcell hC).1
        have hf1 := (bcell hC).2
        simp only [HypsU, predsOf, Region.binds, List.filterMap_cons, List.filterMap_nil, if_true, List.nil_append, List.cons_append, List.getD_cons_zero, List.getD_cons_succ] at hH
        simp only [fillPuts, Act.put, List.setIfInBounds_toArray, List.set_cons_zero, List.set_cons_succ, Nat.reduceAdd]
        go_wp2_with fail
        refine ⟨rfl, rfl, by (repeat' (first | (with_reducible exact Below.refl _ _) | (with_reducible assumption) | (with_reducible refine Below.alloc ?_ ?_ _) | (with_reducible refine below_grew ?_ ?_ _) | (with_reducible refine Below.setCell ?_ ?_ _) | (with_reducible refine Below.drew ?_) | (with_reducible refine below_drewN ?_ _) | omega | (simp; done) | (simp; omega))), ?_⟩
        conv => lhs; whnf
        try rfl
      · exact fun _ => rfl
      simp only [List.nil_append, List.cons_append, Nat.reduceAdd]
      refine wpInv_det (by kernel_rfl) (by kernel_rfl) ?_
      apply Exists.intro
      refine ⟨?_, ?_, ?_⟩
      · intro U W hC hH
        have hc1 := (bcell hC).1
        have hf1 := (bcell hC).2
        simp only [HypsU, predsOf, Region.binds, List.filterMap_cons, List.filterMap_nil, if_true, List.nil_append, List.cons_append, List.getD_cons_zero, List.getD_cons_succ] at hH
        simp only [fillPuts, Act.put, List.setIfInBounds_toArray, List.set_cons_zero, List.set_cons_succ, Nat.reduceAdd]
        go_wp2_with fail
        refine ⟨rfl, rfl, by (repeat' (first | (with_reducible exact Below.refl _ _) | (with_reducible assumption) | (with_reducible refine Below.alloc ?_ ?_ _) | (with_reducible refine below_grew ?_ ?_ _) | (with_reducible refine Below.setCell ?_ ?_ _) | (with_reducible refine Below.drew ?_) | (with_reducible refine below_drewN ?_ _) | omega | (simp; done) | (simp; omega))), ?_⟩
        conv => lhs; whnf
        try rfl
      · exact fun _ => rfl
      simp only [List.nil_append, List.cons_append, Nat.reduceAdd]
      refine wpInv_det (by kernel_rfl) (by kernel_rfl) ?_
      apply Exists.intro
      refine ⟨?_, ?_, ?_⟩
      · intro U W hC hH
        have hc1 := (bcell hC).1
        have hf1 := (bcell hC).2
        simp only [HypsU, predsOf, Region.binds, List.filterMap_cons, List.filterMap_nil, if_true, List.nil_append, List.cons_append, List.getD_cons_zero, List.getD_cons_succ] at hH
        simp only [fillPuts, Act.put, List.setIfInBounds_toArray, List.set_cons_zero, List.set_cons_succ, Nat.reduceAdd]
        go_wp2_with fail
        refine ⟨rfl, rfl, by (repeat' (first | (with_reducible exact Below.refl _ _) | (with_reducible assumption) | (with_reducible refine Below.alloc ?_ ?_ _) | (with_reducible refine below_grew ?_ ?_ _) | (with_reducible refine Below.setCell ?_ ?_ _) | (with_reducible refine Below.drew ?_) | (with_reducible refine below_drewN ?_ _) | omega | (simp; done) | (simp; omega))), ?_⟩
        conv => lhs; whnf
        try rfl
      · exact fun _ => rfl
      simp only [List.nil_append, List.cons_append, Nat.reduceAdd]
      refine wpInv_det (by kernel_rfl) (by kernel_rfl) ?_
      apply Exists.intro
      refine ⟨?_, ?_, ?_⟩
      · intro U W hC hH
        have hc1 := (bcell hC).1
        have hf1 := (bcell hC).2
        simp only [HypsU, predsOf, Region.binds, List.filterMap_cons, List.filterMap_nil, if_true, List.nil_append, List.cons_append, List.getD_cons_zero, List.getD_cons_succ] at hH
        simp only [fillPuts, Act.put, List.setIfInBounds_toArray, List.set_cons_zero, List.set_cons_succ, Nat.reduceAdd]
        go_wp2_with fail
        refine ⟨rfl, rfl, by (repeat' (first | (with_reducible exact Below.refl _ _) | (with_reducible assumption) | (with_reducible refine Below.alloc ?_ ?_ _) | (with_reducible refine below_grew ?_ ?_ _) | (with_reducible refine Below.setCell ?_ ?_ _) | (with_reducible refine Below.drew ?_) | (with_reducible refine below_drewN ?_ _) | omega | (simp; done) | (simp; omega))), ?_⟩
        conv => lhs; whnf
        try rfl
      · exact fun _ => rfl
      simp only [List.nil_append, List.cons_append, Nat.reduceAdd]
      refine wpInv_det (by kernel_rfl) (by kernel_rfl) ?_
      apply Exists.intro
      refine ⟨?_, ?_, ?_⟩
      · intro U W hC hH
        have hc1 := (bcell hC).1
        have hf1 := (bcell hC).2
        simp only [HypsU, predsOf, Region.binds, List.filterMap_cons, List.filterMap_nil, if_true, List.nil_append, List.cons_append, List.getD_cons_zero, List.getD_cons_succ] at hH
        simp only [fillPuts, Act.put, List.setIfInBounds_toArray, List.set_cons_zero, List.set_cons_succ, Nat.reduceAdd]
        go_wp2_with fail
        refine ⟨rfl, rfl, by (repeat' (first | (with_reducible exact Below.refl _ _) | (with_reducible assumption) | (with_reducible refine Below.alloc ?_ ?_ _) | (with_reducible refine below_grew ?_ ?_ _) | (with_reducible refine Below.setCell ?_ ?_ _) | (with_reducible refine Below.drew ?_) | (with_reducible refine below_drewN ?_ _) | omega | (simp; done) | (simp; omega))), ?_⟩
        conv => lhs; whnf
        try rfl
      · exact fun _ => rfl
      simp only [List.nil_append, List.cons_append, Nat.reduceAdd]
      refine wpInv_det (by kernel_rfl) (by kernel_rfl) ?_
      apply Exists.intro
      refine ⟨?_, ?_, ?_⟩
      · intro U W hC hH
        have hc1 := (bcell hC).1
        have hf1 := (bcell hC).2
        simp only [HypsU, predsOf, Region.binds, List.filterMap_cons, List.filterMap_nil, if_true, List.nil_append, List.cons_append, List.getD_cons_zero, List.getD_cons_succ] at hH
        simp only [fillPuts, Act.put, List.setIfInBounds_toArray, List.set_cons_zero, List.set_cons_succ, Nat.reduceAdd]
        go_wp2_with fail
        refine ⟨rfl, rfl, by (repeat' (first | (with_reducible exact Below.refl _ _) | (with_reducible assumption) | (with_reducible refine Below.alloc ?_ ?_ _) | (with_reducible refine below_grew ?_ ?_ _) | (with_reducible refine Below.setCell ?_ ?_ _) | (with_reducible refine Below.drew ?_) | (with_reducible refine below_drewN ?_ _) | omega | (simp; done) | (simp; omega))), ?_⟩
        conv => lhs; whnf
        try rfl
      · exact fun _ => rfl
      simp only [List.nil_append, List.cons_append, Nat.reduceAdd]
      refine wpInv_det (by kernel_rfl) (by kernel_rfl) ?_
      apply Exists.intro
      refine ⟨?_, ?_, ?_⟩
      · intro U W hC hH
        have hc1 := (bcell hC).1
        have hf1 := (bcell hC).2
        simp only [HypsU, predsOf, Region.binds, List.filterMap_cons, List.filterMap_nil, if_true, List.nil_append, List.cons_append, List.getD_cons_zero, List.getD_cons_succ] at hH
        simp only [fillPuts, Act.put, List.setIfInBounds_toArray, List.set_cons_zero, List.set_cons_succ, Nat.reduceAdd]
        go_wp2_with fail
        refine ⟨rfl, rfl, by (repeat' (first | (with_reducible exact Below.refl _ _) | (with_reducible assumption) | (with_reducible refine Below.alloc ?_ ?_ _) | (with_reducible refine below_grew ?_ ?_ _) | (with_reducible refine Below.setCell ?_ ?_ _) | (with_reducible refine Below.drew ?_) | (with_reducible refine below_drewN ?_ _) | omega | (simp; done) | (simp; omega))), ?_⟩
        conv => lhs; whnf
        try rfl
      · exact fun _ => rfl
      simp only [List.nil_append, List.cons_append, Nat.reduceAdd]
      refine wpInv_det (by kernel_rfl) (by kernel_rfl) ?_
      apply Exists.intro
      refine ⟨?_, ?_, ?_⟩
      · intro U W hC hH
        have hc1 := (bcell hC).1
        have hf1 := (bcell hC).2
        simp only [HypsU, predsOf, Region.binds, List.filterMap_cons, List.filterMap_nil, if_true, List.nil_append, List.cons_append, List.getD_cons_zero, List.getD_cons_succ] at hH
        simp only [fillPuts, Act.put, List.setIfInBounds_toArray, List.set_cons_zero, List.set_cons_succ, Nat.reduceAdd]
        go_wp2_with fail
        refine ⟨rfl, rfl, by (repeat' (first | (with_reducible exact Below.refl _ _) | (with_reducible assumption) | (with_reducible refine Below.alloc ?_ ?_ _) | (with_reducible refine below_grew ?_ ?_ _) | (with_reducible refine Below.setCell ?_ ?_ _) | (with_reducible refine Below.drew ?_) | (with_reducible refine below_drewN ?_ _) | omega | (simp; done) | (simp; omega))), ?_⟩
        conv => lhs; whnf
        try rfl
      · exact fun _ => rfl
      simp only [List.nil_append, List.cons_append, Nat.reduceAdd]
      refine wpInv_det (by kernel_rfl) (by kernel_rfl) ?_
      apply Exists.intro
      refine ⟨?_, ?_, ?_⟩
      · intro U W hC hH
        have hc1 := (bcell hC).1
        have hf1 := (bcell hC).2
        simp only [HypsU, predsOf, Region.binds, List.filterMap_cons, List.filterMap_nil, if_true, List.nil_append, List.cons_append, List.getD_cons_zero, List.getD_cons_succ] at hH
        simp only [fillPuts, Act.put, List.setIfInBounds_toArray, List.set_cons_zero, List.set_cons_succ, Nat.reduceAdd]
        go_wp2_with fail
        refine ⟨rfl, rfl, by (repeat' (first | (with_reducible exact Below.refl _ _) | (with_reducible assumption) | (with_reducible refine Below.alloc ?_ ?_ _) | (with_reducible refine below_grew ?_ ?_ _) | (with_reducible refine Below.setCell ?_ ?_ _) | (with_reducible refine Below.drew ?_) | (with_reducible refine below_drewN ?_ _) | omega | (simp; done) | (simp; omega))), ?_⟩
        conv => lhs; whnf
        try rfl
      · exact fun _ => rfl
      simp only [List.nil_append, List.cons_append, Nat.reduceAdd]
      refine wpInv_det (by kernel_rfl) (by kernel_rfl) ?_
      apply Exists.intro
      refine ⟨?_, ?_, ?_⟩
      · intro U W hC hH
        have hc1 := (bcell hC).1
        have hf1 := (bcell hC).2
        simp only [HypsU, predsOf, Region.binds, List.filterMap_cons, List.filterMap_nil, if_true, List.nil_append, List.cons_append, List.getD_cons_zero, List.getD_cons_succ] at hH
        simp only [fillPuts, Act.put, List.setIfInBounds_toArray, List.set_cons_zero, List.set_cons_succ, Nat.reduceAdd]
        go_wp2_with fail
        refine ⟨rfl, rfl, by (repeat' (first | (with_reducible exact Below.refl _ _) | (with_reducible assumption) | (with_reducible refine Below.alloc ?_ ?_ _) | (with_reducible refine below_grew ?_ ?_ _) | (with_reducible refine Below.setCell ?_ ?_ _) | (with_reducible refine Below.drew ?_) | (with_reducible refine below_drewN ?_ _) | omega | (simp; done) | (simp; omega))), ?_⟩
        conv => lhs; whnf
        try rfl
      · exact fun _ => rfl
      simp only [List.nil_append, List.cons_append, Nat.reduceAdd]
      refine wpInv_det (by kernel_rfl) (by kernel_rfl) ?_
      apply Exists.intro
      refine ⟨?_, ?_, ?_⟩
      · intro U W hC hH
        have hc1 := (bcell hC).1
        have hf1 := (bcell hC).2
        simp only [HypsU, predsOf, Region.binds, List.filterMap_cons, List.filterMap_nil, if_true, List.nil_append, List.cons_append, List.getD_cons_zero, List.getD_cons_succ] at hH
        simp only [fillPuts, Act.put, List.setIfInBounds_toArray, List.set_cons_zero, List.set_cons_succ, Nat.reduceAdd]
        go_wp2_with fail
        refine ⟨rfl, rfl, by (repeat' (first | (with_reducible exact Below.refl _ _) | (with_reducible assumption) | (with_reducible refine Below.alloc ?_ ?_ _) | (with_reducible refine below_grew ?_ ?_ _) | (with_reducible refine Below.setCell ?_ ?_ _) | (with_reducible refine Below.drew ?_) | (with_reducible refine below_drewN ?_ _) | omega | (simp; done) | (simp; omega))), ?_⟩
        conv => lhs; whnf
        try rfl
      · exact fun _ => rfl
      simp only [List.nil_append, List.cons_append, Nat.reduceAdd]
      refine wpInv_det (by kernel_rfl) (by kernel_rfl) ?_
      apply Exists.intro
      refine ⟨?_, ?_, ?_⟩
      · intro U W hC hH
        have hc1 := (bcell hC).1
        have hf1 := (bcell hC).2
        simp only [HypsU, predsOf, Region.binds, List.filterMap_cons, List.filterMap_nil, if_true, List.nil_append, List.cons_append, List.getD_cons_zero, List.getD_cons_succ] at hH
        simp only [fillPuts, Act.put, List.setIfInBounds_toArray, List.set_cons_zero, List.set_cons_succ, Nat.reduceAdd]
        go_wp2_with fail
        refine ⟨rfl, rfl, by (repeat' (first | (with_reducible exact Below.refl _ _) | (with_reducible assumption) | (with_reducible refine Below.alloc ?_ ?_ _) | (with_reducible refine below_grew ?_ ?_ _) | (with_reducible refine Below.setCell ?_ ?_ _) | (with_reducible refine Below.drew ?_) | (with_reducible refine below_drewN ?_ _) | omega | (simp; done) | (simp; omega))), ?_⟩
        conv => lhs; whnf
        try rfl
      · exact fun _ => rfl
      simp only [List.nil_append, List.cons_append, Nat.reduceAdd]
      simp only [List.nil_append, List.cons_append, Nat.reduceAdd, fillPuts, Act.put, List.setIfInBounds_toArray, List.set_cons_zero, List.set_cons_succ]
      rintro U W hC ⟨q0, q1, q2, q3, q4, q5, q6, q7, q8, q9, q10, q11, -⟩ -
      simp only [q0, q1, q2, q3, q4, q5, q6, q7, q8, q9, q10, q11]
      clear q0 q1 q2 q3 q4 q5 q6 q7 q8 q9 q10 q11 d0 d1 d2 d3
      have hcall := HIP.out gb zb pb ob h h tvp (dctZ s f) X0 W (HPL2.out.keep hC) (HBG.out.keep hC) a4.2.1 a4.2.2.2 HDN.out.2.1.2 (fun j hj => ⟨(cell_blk (hC.block zb hzlr) _).trans (HZCC.out j hj).1, (cell_blk (hC.block zb hzlr) _).trans (HZCC.out j hj).2⟩) (Nat.lt_of_lt_of_le hzlr hC.size) a3 (fun j hj => by
        rw [HZA.out.2 j hj]
        have := dctPair_small n f j H32.out
        unfold small at this
        unfold In64
        omega) (Nat.le_refl _) (by omega) HZA.out.1
      have HCALL := Lib.hid hcall
      have HZW := Lib.hid (HZR.out.keep hC)
      have hUW := HUR.out.trans (Upd.of_below hC)
      have HUW := Lib.hid hUW
      clear hcall hUW hC
      go_upto_region 9 with (go_at_call 22; refine HCALL.out.mono ?_; rintro e w2 ⟨rfl, hu2, hb2⟩; have HU2 := Lib.hid hu2; have HB2 := Lib.hid hb2; clear hu2 hb2)
      have hdlW := Nat.lt_of_lt_of_le hdl HUW.out.size
      have hcd2 : w2.heap[db]? = some (.cells #[.pointer (some ⟨pb, 0, none⟩), .slice (some ⟨zb, 0, none⟩) h h, .slice (some ⟨gb, 0, none⟩) h h, .slice (some ⟨tb, 0, none⟩) h tc] DctT (0, 0)) := (HU2.out.block db hdlW a2).trans ((HUW.out.block db hdl a1).trans HST.out)
      have e2 := (block_facts hcd2).1 2
      have hdl2 := (block_facts hcd2).2.2
      simp only [List.getElem?_toArray, List.getElem?_cons_zero, List.getElem?_cons_succ] at e2
      have hU3 : Upd3 zb gb g w w2 := (Upd3.of HUW.out (.inl rfl)).trans (Upd3.of HU2.out (.inr (.inl rfl)))
      have HU3 := Lib.hid hU3
      have hgW := Nat.lt_of_lt_of_le hxl HUW.out.size
      have htW := Nat.lt_of_lt_of_le htl HUW.out.size
      have hR2 := HR0.out.block ((HU2.out.block g hgW hne.2.2.1).trans (HUW.out.block g hxl hne.2.1))
      have htb2 : w2.heap[tb]? = w.heap[tb]? := (HU2.out.block tb htW htz.2.1).trans (HUW.out.block tb htl htz.1)
      have HTB2 := Lib.hid htb2
      have htl2 := Nat.lt_of_lt_of_le htW HU2.out.size
      have hT2 : CosW w2 := HC.out.below (hU3.below HB0.out HB0.out.size hz0 hg0 hgg)
      have hPL3 := (HPLAN.out.upd HUW.out a4.1 a4.2.2.1 HDN.out.2.1.1).upd HU2.out a4.2.1 a4.2.2.2 HDN.out.2.1.2
      have HR2 := Lib.hid hR2
      have HT2 := Lib.hid hT2
      have HPL3 := Lib.hid hPL3
      have HCD2 := Lib.hid hcd2
      have hbl2 := (block_facts HB2.out).2.2
      clear hU3 hR2 htb2 hT2 hPL3 hcd2 HPL2 HBG HZCC HTBU HCALL HCD HRR HTR HZR HUR
      go_wp2_with fail
      go_loopw [53] (fun cnt wr => ∃ k : Nat, k ≤ h ∧ cnt = .int .i64 k ∧ R32 g N n T (putOn s f f k) wr ∧ Upd g w2 wr) (fun cnt _ => h - (intOf cnt).toNat)
      case atStart => exact ⟨0, by omega, rfl, HR2.out.ext (fun i _ => by unfold putOn; (repeat' split) <;> first | rfl | omega), Upd.refl _ _⟩
      case round =>
        clear e2
        obtain ⟨k, hk, rfl, hRr, hu⟩ := hrel
        by_cases hlt : k < h
        · have hlt' : (k : Int) < h := by omega
          have hk0 : (0 : Int) ≤ k := by omega
          obtain ⟨S, hS⟩ : ∃ S, sumTo s (dctZ s f) k h = S := ⟨_, rfl⟩
          obtain ⟨d0, d1, d2, d3⟩ := bigW_cells HB2.out k hlt
          rw [hS] at d0 d1 d2 d3
          have d0 := (cell_blk (hu.block gb hbl2 (Ne.symm hne.2.2.1)) _).trans d0
          have d1 := (cell_blk (hu.block gb hbl2 (Ne.symm hne.2.2.1)) _).trans d1
          have d2 := (cell_blk (hu.block gb hbl2 (Ne.symm hne.2.2.1)) _).trans d2
          have d3 := (cell_blk (hu.block gb hbl2 (Ne.symm hne.2.2.1)) _).trans d3
          have hgbr := Nat.lt_of_lt_of_le hbl2 hu.size
          have hydk := HYD.out k
          have hyk := HYI.out k
          obtain ⟨q, hq⟩ : ∃ q : Nat, k * 128 / n = q := ⟨_, rfl⟩
          rw [hS, hq] at hydk
          obtain ⟨tc0, tc1⟩ := HTCL.out k hlt
          rw [hq] at tc0 tc1
          obtain ⟨tu, htu⟩ : ∃ tu, turnF (q : Int) = tu := ⟨_, rfl⟩
          have hts := turnF_small (q : Int)
          rw [htu] at hydk hts tc0 tc1
          have h64 : In64 tu.1 ∧ In64 tu.2 := by unfold small at hts; unfold In64; omega
          have t0 := (cell_blk ((hu.block tb htl2 htz.2.2).trans HTB2.out) _).trans tc0
          have t1 := (cell_blk ((hu.block tb htl2 htz.2.2).trans HTB2.out) _).trans tc1
          have htlr := Nat.lt_of_lt_of_le htl2 hu.size
          have hcd := (hu.block db hdl2 (Ne.symm hne.1)).trans HCD2.out
          have e3 := (block_facts hcd).1 3
          have hdlr := (block_facts hcd).2.2
          simp only [List.getElem?_toArray, List.getElem?_cons_zero, List.getElem?_cons_succ] at e3
          have hgl := hRr.lt
          have HUR := Lib.hid hu
          have HRR := Lib.hid hRr
          have HYK := Lib.hid hydk
          have HYN := Lib.hid hyk
          have H64 := Lib.hid h64
          clear hS hydk hyk hq htu hts h64 hu hRr tc0 tc1 hcd
          go_upto_region 12 with fail
          refine cut_world (fun Y => Below wr.heap.size wr Y ∧ Y.heap[wr.heap.size]? = some (.cells #[.int .i64 (accHi S.1), .int .u64 (accLo S.1), .int .i64 (accHi S.2), .int .u64 (accLo S.2)] BigT (0, 0))) ⟨by (repeat' (first | (with_reducible exact Below.refl _ _) | (with_reducible assumption) | (with_reducible refine Below.alloc ?_ ?_ _) | (with_reducible refine below_grew ?_ ?_ _) | (with_reducible refine Below.setCell ?_ ?_ _) | (with_reducible refine Below.drew ?_) | (with_reducible refine below_drewN ?_ _) | omega | (simp; done) | (simp; omega))), alloc_at _ _⟩ ?_
          rintro Y ⟨hbY, hcY⟩
          obtain ⟨k1, k2, k3⟩ := block_facts hcY
          have y0 := k1 0
          have y1 := k1 1
          have y2 := k1 2
          have y3 := k1 3
          simp only [List.getElem?_toArray, List.getElem?_cons_zero, List.getElem?_cons_succ] at y0 y1 y2 y3
          have z0 := (cell_blk (hbY.block tb htlr) _).trans t0
          have z1 := (cell_blk (hbY.block tb htlr) _).trans t1
          have z3 := (cell_blk (hbY.block db hdlr) _).trans e3
          have htlY := Nat.lt_of_lt_of_le htlr hbY.size
          have hdlY := Nat.lt_of_lt_of_le hdlr hbY.size
          have HUY := Lib.hid (HUR.out.trans (Upd.of_below hbY))
          have hRY := HRR.out.keep hbY
          have HRY := Lib.hid hRY
          have hgl2 := hRY.lt
          clear hRY d0 d1 d2 d3 t0 t1 e3
          generalize wr.heap.size = bb at *
          clear k1 k2 hbY hcY
          refine wp_region_inv [] (fun W => Below Y.heap.size Y W) (fun W W' => Below W.heap.size W W') 10 (by kernel_rfl) (by kernel_rfl) (by kernel_rfl) ((Below.refl _ _).drew) (fun W W' h h' => h.trans (h'.mono h.size)) (fun _ _ h => h.size) ?_
          simp only [List.take_succ_cons, List.take_zero, List.drop_succ_cons, List.drop_zero]
          refine wpInv_det (by kernel_rfl) (by kernel_rfl) ?_
          apply Exists.intro
          refine ⟨?_, ?_, ?_⟩
          · intro U W hC hH
            have hc1 := (bcell hC).1
            have hf1 := (bcell hC).2
            simp only [HypsU, predsOf, Region.binds, List.filterMap_cons, List.filterMap_nil, if_true, List.nil_append, List.cons_append, List.getD_cons_zero, List.getD_cons_succ] at hH
            simp only [fillPuts, Act.put, List.setIfInBounds_toArray, List.set_cons_zero, List.set_cons_succ, Nat.reduceAdd]
            go_wp2_with fail
            refine ⟨rfl, rfl, by (repeat' (first | (with_reducible exact Below.refl _ _) | (with_reducible assumption) | (with_reducible refine Below.alloc ?_ ?_ _) | (with_reducible refine below_grew ?_ ?_ _) | (with_reducible refine Below.setCell ?_ ?_ _) | (with_reducible refine Below.drew ?_) | (with_reducible refine below_drewN ?_ _) | omega | (simp; done) | (simp; omega))), ?_⟩
            conv => lhs; whnf
            try rfl
          · exact fun _ => rfl
          simp only [List.nil_append, List.cons_append, Nat.reduceAdd]
          refine wpInv_det (by kernel_rfl) (by kernel_rfl) ?_
          apply Exists.intro
          refine ⟨?_, ?_, ?_⟩
          · intro U W hC hH
            have hc1 := (bcell hC).1
            have hf1 := (bcell hC).2
            simp only [HypsU, predsOf, Region.binds, List.filterMap_cons, List.filterMap_nil, if_true, List.nil_append, List.cons_append, List.getD_cons_zero, List.getD_cons_succ] at hH
            simp only [fillPuts, Act.put, List.setIfInBounds_toArray, List.set_cons_zero, List.set_cons_succ, Nat.reduceAdd]
            go_wp2_with fail
            refine ⟨rfl, rfl, by (repeat' (first | (with_reducible exact Below.refl _ _) | (with_reducible assumption) | (with_reducible refine Below.alloc ?_ ?_ _) | (with_reducible refine below_grew ?_ ?_ _) | (with_reducible refine Below.setCell ?_ ?_ _) | (with_reducible refine Below.drew ?_) | (with_reducible refine below_drewN ?_ _) | omega | (simp; done) | (simp; omega))), ?_⟩
            conv => lhs; whnf
            try rfl
          · exact fun _ => rfl
          simp only [List.nil_append, List.cons_append, Nat.reduceAdd]
          refine wpInv_det (by kernel_rfl) (by kernel_rfl) ?_
          apply Exists.intro
          refine ⟨?_, ?_, ?_⟩
          · intro U W hC hH
            have hc1 := (bcell hC).1
            have hf1 := (bcell hC).2
            simp only [HypsU, predsOf, Region.binds, List.filterMap_cons, List.filterMap_nil, if_true, List.nil_append, List.cons_append, List.getD_cons_zero, List.getD_cons_succ] at hH
            simp only [fillPuts, Act.put, List.setIfInBounds_toArray, List.set_cons_zero, List.set_cons_succ, Nat.reduceAdd]
            go_wp2_with fail
            refine ⟨rfl, rfl, by (repeat' (first | (with_reducible exact Below.refl _ _) | (with_reducible assumption) | (with_reducible refine Below.alloc ?_ ?_ _) | (with_reducible refine below_grew ?_ ?_ _) | (with_reducible refine Below.setCell ?_ ?_ _) | (with_reducible refine Below.drew ?_) | (with_reducible refine below_drewN ?_ _) | omega | (simp; done) | (simp; omega))), ?_⟩
            conv => lhs; whnf
            try rfl
          · exact fun _ => rfl
          simp only [List.nil_append, List.cons_append, Nat.reduceAdd]
          refine wpInv_det (by kernel_rfl) (by kernel_rfl) ?_
          apply Exists.intro
          refine ⟨?_, ?_, ?_⟩
          · intro U W hC hH
            have hc1 := (bcell hC).1
            have hf1 := (bcell hC).2
            simp only [HypsU, predsOf, Region.binds, List.filterMap_cons, List.filterMap_nil, if_true, List.nil_append, List.cons_append, List.getD_cons_zero, List.getD_cons_succ] at hH
            simp only [fillPuts, Act.put, List.setIfInBounds_toArray, List.set_cons_zero, List.set_cons_succ, Nat.reduceAdd]
            go_wp2_with fail
            refine ⟨rfl, rfl, by (repeat' (first | (with_reducible exact Below.refl _ _) | (with_reducible assumption) | (with_reducible refine Below.alloc ?_ ?_ _) | (with_reducible refine below_grew ?_ ?_ _) | (with_reducible refine Below.setCell ?_ ?_ _) | (with_reducible refine Below.drew ?_) | (with_reducible refine below_drewN ?_ _) | omega | (simp; done) | (simp; omega))), ?_⟩
            conv => lhs; whnf
            try rfl
          · exact fun _ => rfl
          simp only [List.nil_append, List.cons_append, Nat.reduceAdd]
          refine wpInv_det (by kernel_rfl) (by kernel_rfl) ?_
          apply Exists.intro
          refine ⟨?_, ?_, ?_⟩
          · intro U W hC hH
            have hc1 := (bcell hC).1
            have hf1 := (bcell hC).2
            simp only [HypsU, predsOf, Region.binds, List.filterMap_cons, List.filterMap_nil, if_true, List.nil_append, List.cons_append, List.getD_cons_zero, List.getD_cons_succ] at hH
            simp only [fillPuts, Act.put, List.setIfInBounds_toArray, List.set_cons_zero, List.set_cons_succ, Nat.reduceAdd]
            go_wp2_with fail
            refine ⟨rfl, rfl, by (repeat' (first | (with_reducible exact Below.refl _ _) | (with_reducible assumption) | (with_reducible refine Below.alloc ?_ ?_ _) | (with_reducible refine below_grew ?_ ?_ _) | (with_reducible refine Below.setCell ?_ ?_ _) | (with_reducible refine Below.drew ?_) | (with_reducible refine below_drewN ?_ _) | omega | (simp; done) | (simp; omega))), ?_⟩
            conv => lhs; whnf
            try rfl
          · exact fun _ => rfl
          simp only [List.nil_append, List.cons_append, Nat.reduceAdd]
          refine wpInv_det (by kernel_rfl) (by kernel_rfl) ?_
          apply Exists.intro
          refine ⟨?_, ?_, ?_⟩
          · intro U W hC hH
            have hc1 := (bcell hC).1
            have hf1 := (bcell hC).2
            simp only [HypsU, predsOf, Region.binds, List.filterMap_cons, List.filterMap_nil, if_true, List.nil_append, List.cons_append, List.getD_cons_zero, List.getD_cons_succ] at hH
            simp only [fillPuts, Act.put, List.setIfInBounds_toArray, List.set_cons_zero, List.set_cons_succ, Nat.reduceAdd]
            go_wp2_with fail
            refine ⟨rfl, rfl, by (repeat' (first | (with_reducible exact Below.refl _ _) | (with_reducible assumption) | (with_reducible refine Below.alloc ?_ ?_ _) | (with_reducible refine below_grew ?_ ?_ _) | (with_reducible refine Below.setCell ?_ ?_ _) | (with_reducible refine Below.drew ?_) | (with_reducible refine below_drewN ?_ _) | omega | (simp; done) | (simp; omega))), ?_⟩
            conv => lhs; whnf
            try rfl
          · exact fun _ => rfl
          simp only [List.nil_append, List.cons_append, Nat.reduceAdd]
          refine wpInv_det (by kernel_rfl) (by kernel_rfl) ?_
          apply Exists.intro
          refine ⟨?_, ?_, ?_⟩
          · intro U W hC hH
            have hc1 := (bcell hC).1
            have hf1 := (bcell hC).2
            simp only [HypsU, predsOf, Region.binds, List.filterMap_cons, List.filterMap_nil, if_true, List.nil_append, List.cons_append, List.getD_cons_zero, List.getD_cons_succ] at hH
            simp only [fillPuts, Act.put, List.setIfInBounds_toArray, List.set_cons_zero, List.set_cons_succ, Nat.reduceAdd]
            go_wp2_with fail
            refine ⟨rfl, rfl, by (repeat' (first | (with_reducible exact Below.refl _ _) | (with_reducible assumption) | (with_reducible refine Below.alloc ?_ ?_ _) | (with_reducible refine below_grew ?_ ?_ _) | (with_reducible refine Below.setCell ?_ ?_ _) | (with_reducible refine Below.drew ?_) | (with_reducible refine below_drewN ?_ _) | omega | (simp; done) | (simp; omega))), ?_⟩
            conv => lhs; whnf
            try rfl
          · exact fun _ => rfl
          simp only [List.nil_append, List.cons_append, Nat.reduceAdd]
          refine wpInv_det (by kernel_rfl) (by kernel_rfl) ?_
          apply Exists.intro
          refine ⟨?_, ?_, ?_⟩
          · intro U W hC hH
            have hc1 := (bcell hC).1
            have hf1 := (bcell hC).2
            simp only [HypsU, predsOf, Region.binds, List.filterMap_cons, List.filterMap_nil, if_true, List.nil_append, List.cons_append, List.getD_cons_zero, List.getD_cons_succ] at hH
            simp only [fillPuts, Act.put, List.setIfInBounds_toArray, List.set_cons_zero, List.set_cons_succ, Nat.reduceAdd]
            go_wp2_with fail
            refine ⟨rfl, rfl, by (repeat' (first | (with_reducible exact Below.refl _ _) | (with_reducible assumption) | (with_reducible refine Below.alloc ?_ ?_ _) | (with_reducible refine below_grew ?_ ?_ _) | (with_reducible refine Below.setCell ?_ ?_ _) | (with_reducible refine Below.drew ?_) | (with_reducible refine below_drewN ?_ _) | omega | (simp; done) | (simp; omega))), ?_⟩
            conv => lhs; whnf
            try rfl
          · exact fun _ => rfl
          simp only [List.nil_append, List.cons_append, Nat.reduceAdd]
          refine wpInv_det (by kernel_rfl) (by kernel_rfl) ?_
          apply Exists.intro
          refine ⟨?_, ?_, ?_⟩
          · intro U W hC hH
            have hc1 := (bcell hC).1
            have hf1 := (bcell hC).2
            simp only [HypsU, predsOf, Region.binds, List.filterMap_cons, List.filterMap_nil, if_true, List.nil_append, List.cons_append, List.getD_cons_zero, List.getD_cons_succ] at hH
            simp only [fillPuts, Act.put, List.setIfInBounds_toArray, List.set_cons_zero, List.set_cons_succ, Nat.reduceAdd]
            go_wp2_with fail
            refine ⟨rfl, rfl, by (repeat' (first | (with_reducible exact Below.refl _ _) | (with_reducible assumption) | (with_reducible refine Below.alloc ?_ ?_ _) | (with_reducible refine below_grew ?_ ?_ _) | (with_reducible refine Below.setCell ?_ ?_ _) | (with_reducible refine Below.drew ?_) | (with_reducible refine below_drewN ?_ _) | omega | (simp; done) | (simp; omega))), ?_⟩
            conv => lhs; whnf
            try rfl
          · exact fun _ => rfl
          simp only [List.nil_append, List.cons_append, Nat.reduceAdd]
          refine wpInv_det (by kernel_rfl) (by kernel_rfl) ?_
          apply Exists.intro
          refine ⟨?_, ?_, ?_⟩
          · intro U W hC hH
            have hc1 := (bcell hC).1
            have hf1 := (bcell hC).2
            simp only [HypsU, predsOf, Region.binds, List.filterMap_cons, List.filterMap_nil, if_true, List.nil_append, List.cons_append, List.getD_cons_zero, List.getD_cons_succ] at hH
            simp only [fillPuts, Act.put, List.setIfInBounds_toArray, List.set_cons_zero, List.set_cons_succ, Nat.reduceAdd]
            go_wp2_with fail
            refine ⟨rfl, rfl, by (repeat' (first | (with_reducible exact Below.refl _ _) | (with_reducible assumption) | (with_reducible refine Below.alloc ?_ ?_ _) | (with_reducible refine below_grew ?_ ?_ _) | (with_reducible refine Below.setCell ?_ ?_ _) | (with_reducible refine Below.drew ?_) | (with_reducible refine below_drewN ?_ _) | omega | (simp; done) | (simp; omega))), ?_⟩
            conv => lhs; whnf
            try rfl
          · exact fun _ => rfl
          simp only [List.nil_append, List.cons_append, Nat.reduceAdd]
          simp only [List.nil_append, List.cons_append, Nat.reduceAdd, fillPuts, Act.put, List.setIfInBounds_toArray, List.set_cons_zero, List.set_cons_succ]
          rintro U W2 hC ⟨q0, q1, q2, q3, q4, q5, q6, q7, q8, q9, -⟩ -
          simp only [q0, q1, q2, q3, q4, q5, q6, q7, q8, q9]
          clear q0 q1 q2 q3 q4 q5 q6 q7 q8 q9
          have hcall := HPU.out (putOn s f f k) S tu W2 (HRY.out.keep hC) H64.out (by rw [← HYK.out]; exact HYN.out.1) (by rw [← HYK.out]; exact HYN.out.2) k hlt
          rw [← HYK.out] at hcall
          have HCA := Lib.hid hcall
          have HUW2 := Lib.hid (HUY.out.trans (Upd.of_below hC))
          clear hcall hC y0 y1 y2 y3 z0 z1 z3
          go_wp2_with (go_at_call 67; refine HCA.out.mono ?_; rintro e w4 ⟨rfl, hu4, hr4⟩; have HU4 := Lib.hid hu4; have HR4 := Lib.hid hr4; clear hu4 hr4)
          exact ⟨⟨k + 1, by omega, by go_num, HR4.out.ext (fun i hi => HPT.out k hlt i hi), HUW2.out.trans HU4.out⟩, by simp only [intOf]; omega⟩
        · obtain rfl : h = k := by omega
          have hlt' : ¬ (h : Int) < h := by omega
          have HUR := Lib.hid hu
          have HRR := Lib.hid hRr
          clear hu hRr
          go_wp2_with fail
          go_ret
          have hzW := (block_facts HZW.out).2.2
          have hzl2 := Nat.lt_of_lt_of_le hzW HU2.out.size
          have hn := HNS.out
          have hh := HHS.out
          subst hn
          subst hh
          refine ⟨rfl, HU3.out.trans (Upd3.of HUR.out (.inr (.inr rfl))), HRR.out.ext (fun i hi => HPL.out i hi), ?_⟩
          exact ⟨(HUR.out.block db hdl2 (Ne.symm hne.1)).trans HCD2.out, ⟨_, (HUR.out.block zb hzl2 (Ne.symm hne.2.1)).trans ((HU2.out.block zb hzW a3).trans HZW.out)⟩, ⟨_, (HUR.out.block gb hbl2 (Ne.symm hne.2.2.1)).trans HB2.out⟩,
            HPL3.out.upd HUR.out (Ne.symm hne.2.2.2.1) (Ne.symm hne.2.2.2.2) HDN.out.2.2.2.1, own_same HDN.out.1 (fun k hk => by cases hk; exact (HUR.out.block tb htl2 htz.2.2).trans HTB2.out), a1, a2, a3, a4, HDN.out.2.1, HDN.out.2.2.1⟩
end Go.Proofs.YtcibajleknhklaaDoor
end

