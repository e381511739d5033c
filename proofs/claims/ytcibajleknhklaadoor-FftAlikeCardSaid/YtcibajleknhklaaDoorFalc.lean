/-
  FftAlike: A plan's sums are the direct ones, again and again.
  (One text out of these parts: FftI, App, FftN, FftF, FftA, FftL, FlatS, Law, LaidC, FftAlikeRow.)
-/
import Derived.Test.YtcibajleknhklaaDoorFalb
import Derived.DataReads
import Derived.ProofKit
import Derived.LaidMore
import Derived.OpenShut
import Derived.Stop.Joined
import Derived.Lib.LaidTab
import Derived.Test.YtcibajleknhklaaDoorRows
import Derived.Test.YtcibajleknhklaaDoorCards
import Derived.Test.YtcibajleknhklaaDoorTie
import Derived.SevenTiedAt
section
namespace Go.Proofs.YtcibajleknhklaaDoor
open Go.RowKit Go.BigFrame Go.Proofs.YtcibajleknhklaaDoorW.PrintWords Go.Proofs.YtcibajleknhklaaDoorW.PrintLast Go.Proofs.YtcibajleknhklaaDoorW.PrintMore
set_option linter.unusedSimpArgs false
set_option linter.unusedVariables false
/-- The first k places hold others. -/
def upTo (L X : Nat → Int × Int) (k : Nat) : Nat → Int × Int := fun i => if i < k then L i else X i
theorem upTo_step (L X : Nat → Int × Int) (k : Nat) : updX (upTo L X k) k (L k) = upTo L X (k + 1) := by
  funext j; unfold updX upTo
  by_cases h : j = k
  · subst h; rw [if_pos rfl, if_pos (by omega)]
  · rw [if_neg h]
    by_cases h2 : j < k
    · rw [if_pos h2, if_pos (by omega)]
    · rw [if_neg h2, if_neg (by omega)]
theorem bigW_ext {g n : Nat} {X Y : Nat → Int × Int} {w : World} (h : BigW g n X w) (e : ∀ i, i < n → X i = Y i) : BigW g n Y w := by
  unfold BigW Bx at *
  rw [← ag_ext kB (n * 4) (bigF X) (bigF Y) (fun j hj => by unfold bigF; rw [e (j / 4) (by omega)])]
  exact h
set_option maxHeartbeats 2000000 in
set_option maxRecDepth 100000 in
theorem into_any (s : Nat) (hs : s < 5) (g zb pb ob tb tc cap zc : Nat) (l : Nat → Int × Int) (X : Nat → Int × Int) (w : World) (hB : BigW g (2 ^ s) X w)
    (hP : w.cell? ⟨pb, 0, none⟩ = some (.slice (some ⟨ob, 0, none⟩) (2 ^ s) (2 ^ s))) (hpl : pb < w.heap.size) (hpg : pb ≠ g)
    (hO : Bx ob 3 kI (2 ^ s) (fun j => (revF s j : Int)) w) (hog : ob ≠ g)
    (hT : 0 < s → TurnsW pb tb (2 ^ s / 2) tc g (planTurn (2 ^ s)) w)
    (hZ : ∀ k, k < 2 ^ s → w.cell? ⟨zb, k * 2, none⟩ = some (.int .i64 (l k).1) ∧ w.cell? ⟨zb, k * 2 + 1, none⟩ = some (.int .i64 (l k).2)) (hzl : zb < w.heap.size) (hzg : zb ≠ g)
    (h64 : ∀ k, k < 2 ^ s → In64 (l k).1 ∧ In64 (l k).2) (hc : 2 ^ s ≤ cap) (hcc : cap ≤ 1000000) :
    Calls Tryd.prog 22 #[.pointer (some ⟨pb, 0, none⟩), .slice (some ⟨g, 0, none⟩) (2 ^ s) cap, .slice (some ⟨zb, 0, none⟩) (2 ^ s) zc] w fun e w' => e = .returned (.bool true) ∧ Upd g w w' ∧
      BigW g (2 ^ s) (intoG cM (2 ^ s) (planTurn (2 ^ s)) (fun i => l (revF s i)) s) w' := by
  have hrv : ∀ i, i < 2 ^ s → revF s i < 2 ^ s := (fun i (hi : i < 2 ^ s) => (revF_lt ⟨s, hs⟩ ⟨i, Nat.lt_of_lt_of_le hi (Nat.pow_le_pow_right (by decide) (show s ≤ 4 by omega))⟩ hi).1)
  obtain ⟨n, hn⟩ : ∃ n : Nat, 2 ^ s = n := ⟨_, rfl⟩
  have hn1 : 0 < n := by rw [← hn]; exact Nat.pow_pos (by decide)
  have hn16 : n ≤ 16 := by rw [← hn]; exact Nat.pow_le_pow_right (by decide) (show s ≤ 4 by omega)
  rw [hn] at hB hP hO hT hZ h64 hc hrv ⊢
  have HN := Lib.hid hn
  have HRV := Lib.hid hrv
  have HB := Lib.hid hB
  have HP := Lib.hid hP
  have HO := Lib.hid hO
  have HT := Lib.hid hT
  have HZ := Lib.hid hZ
  have H64 := Lib.hid h64
  clear hrv hn hB hP hO hT hZ h64
  go_enter Tryd.func22, Tryd.ntmps22
  go_wp2_with fail
  refine (planN_any pb n n _ (by omega) _ HP.out).mono ?_
  rintro e w1 ⟨rfl, hb1⟩
  have HU1 := Lib.hid (Upd.of_below (g := g) hb1)
  have HB1 := Lib.hid (HB.out.keep hb1)
  have hol := (block_facts HO.out).2.2
  clear hb1
  have hP1 : w1.cell? ⟨pb, 0, none⟩ = some (.slice (some ⟨ob, 0, none⟩) n n) := (cell_of_block (HU1.out.block pb hpl hpg) 0).trans HP.out
  have hn0 : ((n : Int) != (n : Int)) = false := by simp
  have hpl1 : pb < w1.heap.size := Nat.lt_of_lt_of_le hpl HU1.out.size
  go_wp2_with fail
  go_loopw [29] (fun cnt wr => ∃ k : Nat, k ≤ n ∧ cnt = .int .i64 k ∧ BigW g n (upTo (fun i => l (revF s i)) X k) wr ∧ Upd g w wr) (fun cnt _ => n - (intOf cnt).toNat)
  case atStart => exact ⟨0, by omega, rfl, bigW_ext HB1.out (fun i _ => by unfold upTo; rw [if_neg (by omega)]), HU1.out⟩
  case round =>
    obtain ⟨k, hk, rfl, hb, hu⟩ := hrel
    by_cases hlt : k < n
    · have hlt' : (k : Int) < n := by omega
      have hk0 : (0 : Int) ≤ k := by omega
      have hrn := HRV.out k hlt
      have hcO := (cell_of_block (hu.block ob hol hog) k).trans (ag_cell HO.out k hlt)
      obtain ⟨r, hr⟩ : ∃ r : Nat, revF s k = r := ⟨_, rfl⟩
      simp only [kI, hr] at hcO hrn
      have hrn' : (r : Int) < n := by omega
      have hr0 : (0 : Int) ≤ r := by omega
      obtain ⟨z0, z1⟩ := HZ.out r hrn
      obtain ⟨i0, i1⟩ := H64.out r hrn
      obtain ⟨a, b, hab⟩ : ∃ a b, l r = (a, b) := ⟨_, _, rfl⟩
      rw [hab] at z0 z1 i0 i1
      simp only at z0 z1 i0 i1
      have hc0 := (cell_of_block (hu.block zb hzl hzg) (r * 2)).trans z0
      have hc1' := (cell_of_block (hu.block zb hzl hzg) (r * 2 + 1)).trans z1
      have hz2 : zb < wr.heap.size := Nat.lt_of_lt_of_le hzl hu.size
      have o0 := fun w => of_any a i0 w
      have o1 := fun w => of_any b i1 w
      unfold accAgg at o0 o1
      have HO0 := Lib.hid o0
      have HO1 := Lib.hid o1
      have HR := Lib.hid hr
      have HAB := Lib.hid hab
      have HBR := Lib.hid hb
      have HUR := Lib.hid hu
      clear z0 z1 i0 i1 o0 o1 hr hab hb hu
      go_wp2_with fail
      refine wp_region_inv [] (fun W => Below wr.heap.size wr W) (fun W W' => Below W.heap.size W W') 15 (by kernel_rfl) (by kernel_rfl) (by kernel_rfl) ((Below.refl _ _).drew) (fun W W' h h' => h.trans (h'.mono h.size)) (fun _ _ h => h.size) ?_
      simp only [List.take_succ_cons, List.take_zero, List.drop_succ_cons, List.drop_zero]
      refine wpInv_det (by kernel_rfl) (by kernel_rfl) ?_
      apply Exists.intro
      refine ⟨?_, ?_, ?_⟩
      · intro U W hC hH
        have hc1 := (bcell hC).1
        have hf1 := (bcell hC).2
        simp only [HypsU, predsOf, Region.binds, List.filterMap_cons, List.filterMap_nil, if_true, List.nil_append, List.cons_append, List.getD_cons_zero, List.getD_cons_succ] at hH
        simp only [fillPuts, Act.put, List.setIfInBounds_toArray, List.set_cons_zero, List.set_cons_succ, Nat.reduceAdd]
        go_wp2_with fail
        refine ⟨rfl, rfl, by (repeat' (first | (with_reducible exact Below.refl _ _) | (with_reducible assumption) | (with_reducible refine Below.alloc ?_ ?_ _) | (with_reducible refine below_grew ?_ ?_ _) | (with_reducible refine Below.setCell ?_ ?_ _) | (with_reducible refine Below.drew ?_) | (with_reducible refine below_drewN ?_ _) | omega | (simp; done) | (simp; omega))), ?_⟩
        conv => lhs; whnf
        try rfl
      · exact fun _ => rfl
      simp only [List.nil_append, List.cons_append, Nat.reduceAdd]
      refine wpInv_det (by kernel_rfl) (by kernel_rfl) ?_
      apply Exists.intro
      refine ⟨?_, ?_, ?_⟩
      · intro U W hC hH
        have hc1 := (bcell hC).1
        have hf1 := (bcell hC).2
        simp only [HypsU, predsOf, Region.binds, List.filterMap_cons, List.filterMap_nil, if_true, List.nil_append, List.cons_append, List.getD_cons_zero, List.getD_cons_succ] at hH
        simp only [fillPuts, Act.put, List.setIfInBounds_toArray, List.set_cons_zero, List.set_cons_succ, Nat.reduceAdd]
        go_wp2_with fail
        refine ⟨rfl, rfl, by (repeat' (first | (with_reducible exact Below.refl _ _) | (with_reducible assumption) | (with_reducible refine Below.alloc ?_ ?_ _) | (with_reducible refine below_grew ?_ ?_ _) | (with_reducible refine Below.setCell ?_ ?_ _) | (with_reducible refine Below.drew ?_) | (with_reducible refine below_drewN ?_ _) | omega | (simp; done) | (simp; omega))), ?_⟩
        conv => lhs; whnf
        try rfl
      · exact fun _ => rfl
      simp only [List.nil_append, List.cons_append, Nat.reduceAdd]
      refine wpInv_det (by kernel_rfl) (by kernel_rfl) ?_
      apply Exists.intro
      refine ⟨?_, ?_, ?_⟩
      · intro U W hC hH
        have hc1 := (bcell hC).1
        have hf1 := (bcell hC).2
        simp only [HypsU, predsOf, Region.binds, List.filterMap_cons, List.filterMap_nil, if_true, List.nil_append, List.cons_append, List.getD_cons_zero, List.getD_cons_succ] at hH
        simp only [fillPuts, Act.put, List.setIfInBounds_toArray, List.set_cons_zero, List.set_cons_succ, Nat.reduceAdd]
        go_wp2_with fail
        refine ⟨rfl, rfl, by (repeat' (first | (with_reducible exact Below.refl _ _) | (with_reducible assumption) | (with_reducible refine Below.alloc ?_ ?_ _) | (with_reducible refine below_grew ?_ ?_ _) | (with_reducible refine Below.setCell ?_ ?_ _) | (with_reducible refine Below.drew ?_) | (with_reducible refine below_drewN ?_ _) | omega | (simp; done) | (simp; omega))), ?_⟩
        conv => lhs; whnf
        try rfl
      · exact fun _ => rfl
      simp only [List.nil_append, List.cons_append, Nat.reduceAdd]
      refine wpInv_det (by kernel_rfl) (by kernel_rfl) ?_
      apply Exists.intro
      refine ⟨?_, ?_, ?_⟩
      · intro U W hC hH
        have hc1 := (bcell hC).1
        have hf1 := (bcell hC).2
        simp only [HypsU, predsOf, Region.binds, List.filterMap_cons, List.filterMap_nil, if_true, List.nil_append, List.cons_append, List.getD_cons_zero, List.getD_cons_succ] at hH
        simp only [fillPuts, Act.put, List.setIfInBounds_toArray, List.set_cons_zero, List.set_cons_succ, Nat.reduceAdd]
        go_wp2_with fail
        refine ⟨rfl, rfl, by (repeat' (first | (with_reducible exact Below.refl _ _) | (with_reducible assumption) | (with_reducible refine Below.alloc ?_ ?_ _) | (with_reducible refine below_grew ?_ ?_ _) | (with_reducible refine Below.setCell ?_ ?_ _) | (with_reducible refine Below.drew ?_) | (with_reducible refine below_drewN ?_ _) | omega | (simp; done) | (simp; omega))), ?_⟩
        conv => lhs; whnf
        try rfl
      · exact fun _ => rfl
      simp only [List.nil_append, List.cons_append, Nat.reduceAdd]
      refine wpInv_det (by kernel_rfl) (by kernel_rfl) ?_
      apply Exists.intro
      refine ⟨?_, ?_, ?_⟩
      · intro U W hC hH
        have hc1 := (bcell hC).1
        have hf1 := (bcell hC).2
        simp only [HypsU, predsOf, Region.binds, List.filterMap_cons, List.filterMap_nil, if_true, List.nil_append, List.cons_append, List.getD_cons_zero, List.getD_cons_succ] at hH
        simp only [fillPuts, Act.put, List.setIfInBounds_toArray, List.set_cons_zero, List.set_cons_succ, Nat.reduceAdd]
        go_wp2_with fail
        refine ⟨rfl, rfl, by (repeat' (first | (with_reducible exact Below.refl _ _) | (with_reducible assumption) | (with_reducible refine Below.alloc ?_ ?_ _) | (with_reducible refine below_grew ?_ ?_ _) | (with_reducible refine Below.setCell ?_ ?_ _) | (with_reducible refine Below.drew ?_) | (with_reducible refine below_drewN ?_ _) | omega | (simp; done) | (simp; omega))), ?_⟩
        conv => lhs; whnf
        try rfl
      · exact fun _ => rfl
      simp only [List.nil_append, List.cons_append, Nat.reduceAdd]
      refine wpInv_det (by kernel_rfl) (by kernel_rfl) ?_
      apply Exists.intro
      refine ⟨?_, ?_, ?_⟩
      · intro U W hC hH
        have hc1 := (bcell hC).1
        have hf1 := (bcell hC).2
        simp only [HypsU, predsOf, Region.binds, List.filterMap_cons, List.filterMap_nil, if_true, List.nil_append, List.cons_append, List.getD_cons_zero, List.getD_cons_succ] at hH
        simp only [fillPuts, Act.put, List.setIfInBounds_toArray, List.set_cons_zero, List.set_cons_succ, Nat.reduceAdd]
        go_wp2_with fail
        refine ⟨rfl, rfl, by (repeat' (first | (with_reducible exact Below.refl _ _) | (with_reducible assumption) | (with_reducible refine Below.alloc ?_ ?_ _) | (with_reducible refine below_grew ?_ ?_ _) | (with_reducible refine Below.setCell ?_ ?_ _) | (with_reducible refine Below.drew ?_) | (with_reducible refine below_drewN ?_ _) | omega | (simp; done) | (simp; omega))), ?_⟩
        conv => lhs; whnf
        try rfl
      · exact fun _ => rfl
      simp only [List.nil_append, List.cons_append, Nat.reduceAdd]
      refine wpInv_det (by kernel_rfl) (by kernel_rfl) ?_
      apply Exists.intro
      refine ⟨?_, ?_, ?_⟩
      · intro U W hC hH
        have hc1 := (bcell hC).1
        have hf1 := (bcell hC).2
        simp only [HypsU, predsOf, Region.binds, List.filterMap_cons, List.filterMap_nil, if_true, List.nil_append, List.cons_append, List.getD_cons_zero, List.getD_cons_succ] at hH
        simp only [fillPuts, Act.put, List.setIfInBounds_toArray, List.set_cons_zero, List.set_cons_succ, Nat.reduceAdd]
        go_wp2_with fail
        refine ⟨rfl, rfl, by (repeat' (first | (with_reducible exact Below.refl _ _) | (with_reducible assumption) | (with_reducible refine Below.alloc ?_ ?_ _) | (with_reducible refine below_grew ?_ ?_ _) | (with_reducible refine Below.setCell ?_ ?_ _) | (with_reducible refine Below.drew ?_) | (with_reducible refine below_drewN ?_ _) | omega | (simp; done) | (simp; omega))), ?_⟩
        conv => lhs; whnf
        try rfl
      · exact fun _ => rfl
      simp only [List.nil_append, List.cons_append, Nat.reduceAdd]
      refine wpInv_det (by kernel_rfl) (by kernel_rfl) ?_
      apply Exists.intro
      refine ⟨?_, ?_, ?_⟩
      · intro U W hC hH
        have hc1 := (bcell hC).1
        have hf1 := (bcell hC).2
        simp only [HypsU, predsOf, Region.binds, List.filterMap_cons, List.filterMap_nil, if_true, List.nil_append, List.cons_append, List.getD_cons_zero, List.getD_cons_succ] at hH
        simp only [fillPuts, Act.put, List.setIfInBounds_toArray, List.set_cons_zero, List.set_cons_succ, Nat.reduceAdd]
        go_wp2_with fail; refine (HO0.out _).mono ?_; rintro e w' ⟨rfl, hb1⟩; obtain ⟨x1, rfl⟩ := below_as_grew hb1; clear hb1; go_wp2_with fail
        refine ⟨rfl, rfl, by (repeat' (first | (with_reducible exact Below.refl _ _) | (with_reducible assumption) | (with_reducible refine Below.alloc ?_ ?_ _) | (with_reducible refine below_grew ?_ ?_ _) | (with_reducible refine Below.setCell ?_ ?_ _) | (with_reducible refine Below.drew ?_) | (with_reducible refine below_drewN ?_ _) | omega | (simp; done) | (simp; omega))), ?_⟩
        conv => lhs; whnf
        try rfl
      · exact fun _ => rfl
      simp only [List.nil_append, List.cons_append, Nat.reduceAdd]
      refine wpInv_det (by kernel_rfl) (by kernel_rfl) ?_
      apply Exists.intro
      refine ⟨?_, ?_, ?_⟩
      · intro U W hC hH
        have hc1 := (bcell hC).1
        have hf1 := (bcell hC).2
        simp only [HypsU, predsOf, Region.binds, List.filterMap_cons, List.filterMap_nil, if_true, List.nil_append, List.cons_append, List.getD_cons_zero, List.getD_cons_succ] at hH
        simp only [fillPuts, Act.put, List.setIfInBounds_toArray, List.set_cons_zero, List.set_cons_succ, Nat.reduceAdd]
        go_wp2_with fail
        refine ⟨rfl, rfl, by (repeat' (first | (with_reducible exact Below.refl _ _) | (with_reducible assumption) | (with_reducible refine Below.alloc ?_ ?_ _) | (with_reducible refine below_grew ?_ ?_ _) | (with_reducible refine Below.setCell ?_ ?_ _) | (with_reducible refine Below.drew ?_) | (with_reducible refine below_drewN ?_ _) | omega | (simp; done) | (simp; omega))), ?_⟩
        conv => lhs; whnf
        try rfl
      · exact fun _ => rfl
      simp only [List.nil_append, List.cons_append, Nat.reduceAdd]
      refine wpInv_det (by kernel_rfl) (by kernel_rfl) ?_
      apply Exists.intro
      refine ⟨?_, ?_, ?_⟩
      · intro U W hC hH
        have hc1 := (bcell hC).1
        have hf1 := (bcell hC).2
        simp only [HypsU, predsOf, Region.binds, List.filterMap_cons, List.filterMap_nil, if_true, List.nil_append, List.cons_append, List.getD_cons_zero, List.getD_cons_succ] at hH
        simp only [fillPuts, Act.put, List.setIfInBounds_toArray, List.set_cons_zero, List.set_cons_succ, Nat.reduceAdd]
        go_wp2_with fail
        refine ⟨rfl, rfl, by (repeat' (first | (with_reducible exact Below.refl _ _) | (with_reducible assumption) | (with_reducible refine Below.alloc ?_ ?_ _) | (with_reducible refine below_grew ?_ ?_ _) | (with_reducible refine Below.setCell ?_ ?_ _) | (with_reducible refine Below.drew ?_) | (with_reducible refine below_drewN ?_ _) | omega | (simp; done) | (simp; omega))), ?_⟩
        conv => lhs; whnf
        try rfl
      · exact fun _ => rfl
      simp only [List.nil_append, List.cons_append, Nat.reduceAdd]
      refine wpInv_det (by kernel_rfl) (by kernel_rfl) ?_
      apply Exists.intro
      refine ⟨?_, ?_, ?_⟩
      · intro U W hC hH
        have hc1 := (bcell hC).1
        have hf1 := (bcell hC).2
        simp only [HypsU, predsOf, Region.binds, List.filterMap_cons, List.filterMap_nil, if_true, List.nil_append, List.cons_append, List.getD_cons_zero, List.getD_cons_succ] at hH
        simp only [fillPuts, Act.put, List.setIfInBounds_toArray, List.set_cons_zero, List.set_cons_succ, Nat.reduceAdd]
        go_wp2_with fail
        refine ⟨rfl, rfl, by (repeat' (first | (with_reducible exact Below.refl _ _) | (with_reducible assumption) | (with_reducible refine Below.alloc ?_ ?_ _) | (with_reducible refine below_grew ?_ ?_ _) | (with_reducible refine Below.setCell ?_ ?_ _) | (with_reducible refine Below.drew ?_) | (with_reducible refine below_drewN ?_ _) | omega | (simp; done) | (simp; omega))), ?_⟩
        conv => lhs; whnf
        try rfl
      · exact fun _ => rfl
      simp only [List.nil_append, List.cons_append, Nat.reduceAdd]
      refine wpInv_det (by kernel_rfl) (by kernel_rfl) ?_
      apply Exists.intro
      refine ⟨?_, ?_, ?_⟩
      · intro U W hC hH
        have hc1 := (bcell hC).1
        have hf1 := (bcell hC).2
        simp only [HypsU, predsOf, Region.binds, List.filterMap_cons, List.filterMap_nil, if_true, List.nil_append, List.cons_append, List.getD_cons_zero, List.getD_cons_succ] at hH
        simp only [fillPuts, Act.put, List.setIfInBounds_toArray, List.set_cons_zero, List.set_cons_succ, Nat.reduceAdd]
        go_wp2_with fail
        refine ⟨rfl, rfl, by (repeat' (first | (with_reducible exact Below.refl _ _) | (with_reducible assumption) | (with_reducible refine Below.alloc ?_ ?_ _) | (with_reducible refine below_grew ?_ ?_ _) | (with_reducible refine Below.setCell ?_ ?_ _) | (with_reducible refine Below.drew ?_) | (with_reducible refine below_drewN ?_ _) | omega | (simp; done) | (simp; omega))), ?_⟩
        conv => lhs; whnf
        try rfl
      · exact fun _ => rfl
      simp only [List.nil_append, List.cons_append, Nat.reduceAdd]
      refine wpInv_det (by kernel_rfl) (by kernel_rfl) ?_
      apply Exists.intro
      refine ⟨?_, ?_, ?_⟩
      · intro U W hC hH
        have hc1 := (bcell hC).1
        have hf1 := (bcell hC).2
        simp only [HypsU, predsOf, Region.binds, List.filterMap_cons, List.filterMap_nil, if_true, List.nil_append, List.cons_append, List.getD_cons_zero, List.getD_cons_succ] at hH
        simp only [fillPuts, Act.put, List.setIfInBounds_toArray, List.set_cons_zero, List.set_cons_succ, Nat.reduceAdd]
        go_wp2_with fail
        refine ⟨rfl, rfl, by (repeat' (first | (with_reducible exact Below.refl _ _) | (with_reducible assumption) | (with_reducible refine Below.alloc ?_ ?_ _) | (with_reducible refine below_grew ?_ ?_ _) | (with_reducible refine Below.setCell ?_ ?_ _) | (with_reducible refine Below.drew ?_) | (with_reducible refine below_drewN ?_ _) | omega | (simp; done) | (simp; omega))), ?_⟩
        conv => lhs; whnf
        try rfl
      · exact fun _ => rfl
      simp only [List.nil_append, List.cons_append, Nat.reduceAdd]
      refine wpInv_det (by kernel_rfl) (by kernel_rfl) ?_
      apply Exists.intro
      refine ⟨?_, ?_, ?_⟩
      · intro U W hC hH
        have hc1 := (bcell hC).1
        have hf1 := (bcell hC).2
        simp only [HypsU, predsOf, Region.binds, List.filterMap_cons, List.filterMap_nil, if_true, List.nil_append, List.cons_append, List.getD_cons_zero, List.getD_cons_succ] at hH
        simp only [fillPuts, Act.put, List.setIfInBounds_toArray, List.set_cons_zero, List.set_cons_succ, Nat.reduceAdd]
        go_wp2_with fail; refine (HO1.out _).mono ?_; rintro e w' ⟨rfl, hb1⟩; obtain ⟨x1, rfl⟩ := below_as_grew hb1; clear hb1; go_wp2_with fail
        refine ⟨rfl, rfl, by (repeat' (first | (with_reducible exact Below.refl _ _) | (with_reducible assumption) | (with_reducible refine Below.alloc ?_ ?_ _) | (with_reducible refine below_grew ?_ ?_ _) | (with_reducible refine Below.setCell ?_ ?_ _) | (with_reducible refine Below.drew ?_) | (with_reducible refine below_drewN ?_ _) | omega | (simp; done) | (simp; omega))), ?_⟩
        conv => lhs; whnf
        try rfl
      · exact fun _ => rfl
      simp only [List.nil_append, List.cons_append, Nat.reduceAdd]
      refine wpInv_det (by kernel_rfl) (by kernel_rfl) ?_
      apply Exists.intro
      refine ⟨?_, ?_, ?_⟩
      · intro U W hC hH
        have hc1 := (bcell hC).1
        have hf1 := (bcell hC).2
        simp only [HypsU, predsOf, Region.binds, List.filterMap_cons, List.filterMap_nil, if_true, List.nil_append, List.cons_append, List.getD_cons_zero, List.getD_cons_succ] at hH
        simp only [fillPuts, Act.put, List.setIfInBounds_toArray, List.set_cons_zero, List.set_cons_succ, Nat.reduceAdd]
        go_wp2_with fail
        refine ⟨rfl, rfl, by (repeat' (first | (with_reducible exact Below.refl _ _) | (with_reducible assumption) | (with_reducible refine Below.alloc ?_ ?_ _) | (with_reducible refine below_grew ?_ ?_ _) | (with_reducible refine Below.setCell ?_ ?_ _) | (with_reducible refine Below.drew ?_) | (with_reducible refine below_drewN ?_ _) | omega | (simp; done) | (simp; omega))), ?_⟩
        conv => lhs; whnf
        try rfl
      · exact fun _ => rfl
      simp only [List.nil_append, List.cons_append, Nat.reduceAdd]
      simp only [List.nil_append, List.cons_append, Nat.reduceAdd, fillPuts, Act.put, List.setIfInBounds_toArray, List.set_cons_zero, List.set_cons_succ]
      rintro U W hC ⟨h0, h1, h2, h3, h4, h5, h6, h7, h8, h9, h10, h11, h12, h13, h14, -⟩ -
      simp only [h0, h1, h2, h3, h4, h5, h6, h7, h8, h9, h10, h11, h12, h13, h14]
      clear h0 h1 h2 h3 h4 h5 h6 h7 h8 h9 h10 h11 h12 h13 h14 hcO hc0 hc1'
      have hX := HBR.out.keep hC
      obtain ⟨c0, c1, c2, c3⟩ := bigW_cells hX k hlt
      have f0 := (block_facts hX).2.1 (k * 4)
      have f1 := (block_facts hX).2.1 (k * 4 + 1)
      have f2 := (block_facts hX).2.1 (k * 4 + 2)
      have f3 := (block_facts hX).2.1 (k * 4 + 3)
      have q1 := bigW_store hX k hlt (a, b)
      have HQ := Lib.hid q1
      have HU3 := Lib.hid (HUR.out.trans (Upd.of_below hC))
      have hgl4 := (block_facts hX).2.2
      clear q1 hX hC
      go_wp2_with fail
      refine ⟨⟨k + 1, by omega, by go_num, ?_, HU3.out.trans (Upd.of_only only_four)⟩, by simp only [intOf]; omega⟩
      have e := upTo_step (fun i => l (revF s i)) X k
      simp only [HR.out, HAB.out] at e
      rw [← e]
      exact HQ.out
    · obtain rfl : n = k := by omega
      have HBR := Lib.hid (bigW_ext (Y := intoG cM n (planTurn n) (fun i => l (revF s i)) 0) hb (fun i hi => by unfold upTo; rw [if_pos hi]; rfl))
      have HUR := Lib.hid hu
      clear hb hu
      go_wp2_with fail
      go_loopw [10] (fun cnt W => ∃ t : Nat, t ≤ s ∧ cnt = .int .i64 ((2 ^ (t + 1) : Nat) : Int) ∧ BigW g n (intoG cM n (planTurn n) (fun i => l (revF s i)) t) W ∧ Upd g w W) (fun cnt _ => 2 * n - (intOf cnt).toNat)
      case atStart => exact ⟨0, by omega, by simp, HBR.out, HUR.out⟩
      case round =>
        obtain ⟨t, ht, rfl, hb, hu⟩ := hrel
        obtain ⟨h, hh⟩ : ∃ h : Nat, 2 ^ t = h := ⟨_, rfl⟩
        have hh0 : 0 < h := by rw [← hh]; exact Nat.pow_pos (by decide)
        have hszh : 2 ^ (t + 1) = h + h := by rw [Nat.pow_succ, hh]; omega
        obtain ⟨sz, hsz⟩ : ∃ sz : Nat, 2 ^ (t + 1) = sz := ⟨_, rfl⟩
        rw [hsz] at hszh ⊢
        by_cases hle : sz ≤ n
        · have hle' : (sz : Int) ≤ n := by omega
          have hts : t + 1 ≤ s := by rw [← hsz, ← HN.out] at hle; exact (Nat.pow_le_pow_iff_right (by decide)).1 hle
          obtain ⟨q, hq⟩ : ∃ q : Nat, n / sz = q := ⟨_, rfl⟩
          have hqn : q * sz = n := by
            rw [← hq]
            refine Nat.div_mul_cancel ?_
            rw [← hsz, ← HN.out]
            exact Nat.pow_dvd_pow 2 hts
          have hq0 : 0 < q := by rcases Nat.eq_zero_or_pos q with e | e; · subst e; omega
                                 · exact e
          have hq16 : q ≤ 16 := by rw [← hq]; exact Nat.le_trans (Nat.div_le_self _ _) hn16
          have HQN := Lib.hid hqn
          have HQ := Lib.hid hq
          have HS2 := Lib.hid hszh
          have HHH := Lib.hid hh
          have HSZ := Lib.hid hsz
          have HBT := Lib.hid hb
          have HUT := Lib.hid hu
          have hmul : ((sz : Int) * 2 + 9223372036854775808) % 18446744073709551616 - 9223372036854775808 = sz * 2 := by omega
          clear hqn hq hszh hsz hh hb hu
          go_wp2_with fail
          go_loopw [11] (fun cnt W => ∃ m : Nat, m ≤ q ∧ cnt = .int .i64 ((m * sz : Nat) : Int) ∧ BigW g n (stageG cM (planTurn n) q h (intoG cM n (planTurn n) (fun i => l (revF s i)) t) m) W ∧ Upd g w W) (fun cnt _ => n - (intOf cnt).toNat)
          case atStart => exact ⟨0, by omega, by simp, HBT.out, HUT.out⟩
          case round =>
            obtain ⟨m, hm, rfl, hb, hu⟩ := hrel
            obtain ⟨f, hf⟩ : ∃ f : Nat, m * sz = f := ⟨_, rfl⟩
            rw [hf]
            have HBM := Lib.hid hb
            have HUM := Lib.hid hu
            clear hb hu
            by_cases hfn : f < n
            · have hfn' : (f : Int) < n := by omega
              have hf0 : (0 : Int) ≤ f := by omega
              have hmq : m < q := by
                rcases Nat.lt_or_ge m q with e | e
                · exact e
                · have := Nat.mul_le_mul_right sz e
                  rw [hf, HQN.out] at this
                  omega
              have hfs : f + sz ≤ n := by
                have := Nat.mul_le_mul_right sz (show m + 1 ≤ q from hmq)
                rw [Nat.add_mul, hf, HQN.out] at this
                omega
              have HF := Lib.hid hf
              clear hf
              have hadd : ((f : Int) + sz + 9223372036854775808) % 18446744073709551616 - 9223372036854775808 = f + sz := by omega
              have hsz0 : ((sz : Int) == 0) = false := beq_eq_false_iff_ne.mpr (by have := HS2.out; omega)
              have hquo : (n : Int) / (sz : Int) = (q : Int) := by rw [← HQ.out]; simp
              have hsz1 : ¬ sz = 0 := by have := HS2.out; omega
              have hwq : wrap64 ((n : Int) / (sz : Int)) = (q : Int) := by rw [hquo]; unfold wrap64; omega
              clear hquo
              have hfc : (f : Int) + sz ≤ cap := by omega
              have hfle : (f : Int) ≤ f + sz := by omega
              have hgl := (block_facts HBM.out).2.2
              go_upto_region 15 with fail
              refine wp_region_inv [] (fun W => Below wr.heap.size wr W) (fun W W' => Below W.heap.size W W') 10 (by kernel_rfl) (by kernel_rfl) (by kernel_rfl) ((Below.refl _ _).drew) (fun W W' h h' => h.trans (h'.mono h.size)) (fun _ _ h => h.size) ?_
              simp only [List.take_succ_cons, List.take_zero, List.drop_succ_cons, List.drop_zero]
              refine wpInv_det (by kernel_rfl) (by kernel_rfl) ?_
              apply Exists.intro
              refine ⟨?_, ?_, ?_⟩
              · intro U W hC hH
                have hc1 := (bcell hC).1
                have hf1 := (bcell hC).2
                simp only [HypsU, predsOf, Region.binds, List.filterMap_cons, List.filterMap_nil, if_true, List.nil_append, List.cons_append, List.getD_cons_zero, List.getD_cons_succ] at hH
                simp only [fillPuts, Act.put, List.setIfInBounds_toArray, List.set_cons_zero, List.set_cons_succ, Nat.reduceAdd]
                go_wp2_with fail
                refine ⟨rfl, rfl, by (repeat' (first | (with_reducible exact Below.refl _ _) | (with_reducible assumption) | (with_reducible refine Below.alloc ?_ ?_ _) | (with_reducible refine below_grew ?_ ?_ _) | (with_reducible refine Below.setCell ?_ ?_ _) | (with_reducible refine Below.drew ?_) | (with_reducible refine below_drewN ?_ _) | omega | (simp; done) | (simp; omega))), ?_⟩
                conv => lhs; whnf
                try rfl
              · exact fun _ => rfl
              simp only [List.nil_append, List.cons_append, Nat.reduceAdd]
              refine wpInv_det (by kernel_rfl) (by kernel_rfl) ?_
              apply Exists.intro
              refine ⟨?_, ?_, ?_⟩
              · intro U W hC hH
                have hc1 := (bcell hC).1
                have hf1 := (bcell hC).2
                simp only [HypsU, predsOf, Region.binds, List.filterMap_cons, List.filterMap_nil, if_true, List.nil_append, List.cons_append, List.getD_cons_zero, List.getD_cons_succ] at hH
                simp only [fillPuts, Act.put, List.setIfInBounds_toArray, List.set_cons_zero, List.set_cons_succ, Nat.reduceAdd]
                go_wp2_with fail
                refine ⟨rfl, rfl, by (repeat' (first | (with_reducible exact Below.refl _ _) | (with_reducible assumption) | (with_reducible refine Below.alloc ?_ ?_ _) | (with_reducible refine below_grew ?_ ?_ _) | (with_reducible refine Below.setCell ?_ ?_ _) | (with_reducible refine Below.drew ?_) | (with_reducible refine below_drewN ?_ _) | omega | (simp; done) | (simp; omega))), ?_⟩
                conv => lhs; whnf
                try rfl
              · exact fun _ => rfl
              simp only [List.nil_append, List.cons_append, Nat.reduceAdd]
              refine wpInv_det (by kernel_rfl) (by kernel_rfl) ?_
              apply Exists.intro
              refine ⟨?_, ?_, ?_⟩
              · intro U W hC hH
                have hc1 := (bcell hC).1
                have hf1 := (bcell hC).2
                simp only [HypsU, predsOf, Region.binds, List.filterMap_cons, List.filterMap_nil, if_true, List.nil_append, List.cons_append, List.getD_cons_zero, List.getD_cons_succ] at hH
                simp only [fillPuts, Act.put, List.setIfInBounds_toArray, List.set_cons_zero, List.set_cons_succ, Nat.reduceAdd]
                go_wp2_with fail
                refine ⟨rfl, rfl, by (repeat' (first | (with_reducible exact Below.refl _ _) | (with_reducible assumption) | (with_reducible refine Below.alloc ?_ ?_ _) | (with_reducible refine below_grew ?_ ?_ _) | (with_reducible refine Below.setCell ?_ ?_ _) | (with_reducible refine Below.drew ?_) | (with_reducible refine below_drewN ?_ _) | omega | (simp; done) | (simp; omega))), ?_⟩
                conv => lhs; whnf
                try rfl
              · exact fun _ => rfl
              simp only [List.nil_append, List.cons_append, Nat.reduceAdd]
              refine wpInv_det (by kernel_rfl) (by kernel_rfl) ?_
              apply Exists.intro
              refine ⟨?_, ?_, ?_⟩
              · intro U W hC hH
                have hc1 := (bcell hC).1
                have hf1 := (bcell hC).2
                simp only [HypsU, predsOf, Region.binds, List.filterMap_cons, List.filterMap_nil, if_true, List.nil_append, List.cons_append, List.getD_cons_zero, List.getD_cons_succ] at hH
                simp only [fillPuts, Act.put, List.setIfInBounds_toArray, List.set_cons_zero, List.set_cons_succ, Nat.reduceAdd]
                go_wp2_with fail
                refine ⟨rfl, rfl, by (repeat' (first | (with_reducible exact Below.refl _ _) | (with_reducible assumption) | (with_reducible refine Below.alloc ?_ ?_ _) | (with_reducible refine below_grew ?_ ?_ _) | (with_reducible refine Below.setCell ?_ ?_ _) | (with_reducible refine Below.drew ?_) | (with_reducible refine below_drewN ?_ _) | omega | (simp; done) | (simp; omega))), ?_⟩
                conv => lhs; whnf
                try rfl
              · exact fun _ => rfl
              simp only [List.nil_append, List.cons_append, Nat.reduceAdd]
              refine wpInv_det (by kernel_rfl) (by kernel_rfl) ?_
              apply Exists.intro
              refine ⟨?_, ?_, ?_⟩
              · intro U W hC hH
                have hc1 := (bcell hC).1
                have hf1 := (bcell hC).2
                simp only [HypsU, predsOf, Region.binds, List.filterMap_cons, List.filterMap_nil, if_true, List.nil_append, List.cons_append, List.getD_cons_zero, List.getD_cons_succ] at hH
                simp only [fillPuts, Act.put, List.setIfInBounds_toArray, List.set_cons_zero, List.set_cons_succ, Nat.reduceAdd]
                go_wp2_with fail
                refine ⟨rfl, rfl, by (repeat' (first | (with_reducible exact Below.refl _ _) | (with_reducible assumption) | (with_reducible refine Below.alloc ?_ ?_ _) | (with_reducible refine below_grew ?_ ?_ _) | (with_reducible refine Below.setCell ?_ ?_ _) | (with_reducible refine Below.drew ?_) | (with_reducible refine below_drewN ?_ _) | omega | (simp; done) | (simp; omega))), ?_⟩
                conv => lhs; whnf
                try rfl
              · exact fun _ => rfl
              simp only [List.nil_append, List.cons_append, Nat.reduceAdd]
              refine wpInv_det (by kernel_rfl) (by kernel_rfl) ?_
              apply Exists.intro
              refine ⟨?_, ?_, ?_⟩
              · intro U W hC hH
                have hc1 := (bcell hC).1
                have hf1 := (bcell hC).2
                simp only [HypsU, predsOf, Region.binds, List.filterMap_cons, List.filterMap_nil, if_true, List.nil_append, List.cons_append, List.getD_cons_zero, List.getD_cons_succ] at hH
                simp only [fillPuts, Act.put, List.setIfInBounds_toArray, List.set_cons_zero, List.set_cons_succ, Nat.reduceAdd]
                go_wp2_with fail
                refine ⟨rfl, rfl, by (repeat' (first | (with_reducible exact Below.refl _ _) | (with_reducible assumption) | (with_reducible refine Below.alloc ?_ ?_ _) | (with_reducible refine below_grew ?_ ?_ _) | (with_reducible refine Below.setCell ?_ ?_ _) | (with_reducible refine Below.drew ?_) | (with_reducible refine below_drewN ?_ _) | omega | (simp; done) | (simp; omega))), ?_⟩
                conv => lhs; whnf
                try rfl
              · exact fun _ => rfl
              simp only [List.nil_append, List.cons_append, Nat.reduceAdd]
              refine wpInv_det (by kernel_rfl) (by kernel_rfl) ?_
              apply Exists.intro
              refine ⟨?_, ?_, ?_⟩
              · intro U W hC hH
                have hc1 := (bcell hC).1
                have hf1 := (bcell hC).2
                simp only [HypsU, predsOf, Region.binds, List.filterMap_cons, List.filterMap_nil, if_true, List.nil_append, List.cons_append, List.getD_cons_zero, List.getD_cons_succ] at hH
                simp only [fillPuts, Act.put, List.setIfInBounds_toArray, List.set_cons_zero, List.set_cons_succ, Nat.reduceAdd]
                go_wp2_with fail
                refine ⟨rfl, rfl, by (repeat' (first | (with_reducible exact Below.refl _ _) | (with_reducible assumption) | (with_reducible refine Below.alloc ?_ ?_ _) | (with_reducible refine below_grew ?_ ?_ _) | (with_reducible refine Below.setCell ?_ ?_ _) | (with_reducible refine Below.drew ?_) | (with_reducible refine below_drewN ?_ _) | omega | (simp; done) | (simp; omega))), ?_⟩
                conv => lhs; whnf
                try rfl
              · exact fun _ => rfl
              simp only [List.nil_append, List.cons_append, Nat.reduceAdd]
              refine wpInv_det (by kernel_rfl) (by kernel_rfl) ?_
              apply Exists.intro
              refine ⟨?_, ?_, ?_⟩
              · intro U W hC hH
                have hc1 := (bcell hC).1
                have hf1 := (bcell hC).2
                simp only [HypsU, predsOf, Region.binds, List.filterMap_cons, List.filterMap_nil, if_true, List.nil_append, List.cons_append, List.getD_cons_zero, List.getD_cons_succ] at hH
                simp only [fillPuts, Act.put, List.setIfInBounds_toArray, List.set_cons_zero, List.set_cons_succ, Nat.reduceAdd]
                go_wp2_with fail
                refine ⟨rfl, rfl, by (repeat' (first | (with_reducible exact Below.refl _ _) | (with_reducible assumption) | (with_reducible refine Below.alloc ?_ ?_ _) | (with_reducible refine below_grew ?_ ?_ _) | (with_reducible refine Below.setCell ?_ ?_ _) | (with_reducible refine Below.drew ?_) | (with_reducible refine below_drewN ?_ _) | omega | (simp; done) | (simp; omega))), ?_⟩
                conv => lhs; whnf
                try rfl
              · exact fun _ => rfl
              simp only [List.nil_append, List.cons_append, Nat.reduceAdd]
              refine wpInv_det (by kernel_rfl) (by kernel_rfl) ?_
              apply Exists.intro
              refine ⟨?_, ?_, ?_⟩
              · intro U W hC hH
                have hc1 := (bcell hC).1
                have hf1 := (bcell hC).2
                simp only [HypsU, predsOf, Region.binds, List.filterMap_cons, List.filterMap_nil, if_true, List.nil_append, List.cons_append, List.getD_cons_zero, List.getD_cons_succ] at hH
                simp only [fillPuts, Act.put, List.setIfInBounds_toArray, List.set_cons_zero, List.set_cons_succ, Nat.reduceAdd]
                go_wp2_with fail
                refine ⟨rfl, rfl, by (repeat' (first | (with_reducible exact Below.refl _ _) | (with_reducible assumption) | (with_reducible refine Below.alloc ?_ ?_ _) | (with_reducible refine below_grew ?_ ?_ _) | (with_reducible refine Below.setCell ?_ ?_ _) | (with_reducible refine Below.drew ?_) | (with_reducible refine below_drewN ?_ _) | omega | (simp; done) | (simp; omega))), ?_⟩
                conv => lhs; whnf
                try rfl
              · exact fun _ => rfl
              simp only [List.nil_append, List.cons_append, Nat.reduceAdd]
              refine wpInv_det (by kernel_rfl) (by kernel_rfl) ?_
              apply Exists.intro
              refine ⟨?_, ?_, ?_⟩
              · intro U W hC hH
                have hc1 := (bcell hC).1
                have hf1 := (bcell hC).2
                simp only [HypsU, predsOf, Region.binds, List.filterMap_cons, List.filterMap_nil, if_true, List.nil_append, List.cons_append, List.getD_cons_zero, List.getD_cons_succ] at hH
                simp only [fillPuts, Act.put, List.setIfInBounds_toArray, List.set_cons_zero, List.set_cons_succ, Nat.reduceAdd]
                go_wp2_with fail
                refine ⟨rfl, rfl, by (repeat' (first | (with_reducible exact Below.refl _ _) | (with_reducible assumption) | (with_reducible refine Below.alloc ?_ ?_ _) | (with_reducible refine below_grew ?_ ?_ _) | (with_reducible refine Below.setCell ?_ ?_ _) | (with_reducible refine Below.drew ?_) | (with_reducible refine below_drewN ?_ _) | omega | (simp; done) | (simp; omega))), ?_⟩
                conv => lhs; whnf
                try rfl
              · exact fun _ => rfl
              simp only [List.nil_append, List.cons_append, Nat.reduceAdd]
              simp only [List.nil_append, List.cons_append, Nat.reduceAdd, fillPuts, Act.put, List.setIfInBounds_toArray, List.set_cons_zero, List.set_cons_succ]
              rintro U W hC ⟨h0, h1, h2, h3, h4, h5, h6, h7, h8, h9, -⟩ -
              simp only [h0, h1, h2, h3, h4, h5, h6, h7, h8, h9]
              clear h0 h1 h2 h3 h4 h5 h6 h7 h8 h9
              have hUW := HUM.out.trans (Upd.of_below hC)
              have HUW := Lib.hid hUW
              have hs0 : 0 < s := by omega
              have hTW := (HT.out hs0).upd hUW
              have hXW := HBM.out.keep hC
              have hfh : f = m * (h + h) := by rw [← HS2.out]; exact HF.out.symm
              have hqh : (h + h) * q = n := by rw [← HS2.out, Nat.mul_comm]; exact HQN.out
              have hk : ∀ k, k < h → k * q < n / 2 := fun k hk => by
                have h1 := Nat.mul_lt_mul_of_pos_right hk hq0
                rw [Nat.add_mul] at hqh
                omega
              have h64 : ∀ k, k < n / 2 → In64 (planTurn n k).1 ∧ In64 (planTurn n k).2 := fun k _ => by
                obtain ⟨a1, a2, a3, a4⟩ := turnF_small ((k * 256 / n : Nat) : Int)
                unfold In64 planTurn
                omega
              have hj := join_any (planTurn n) g n f h q (n / 2) pb tb tc (cap - f) _ W hXW hTW (by have := HS2.out; omega) hn16 hk h64 hh0 hq16
              rw [← HS2.out] at hj
              have HJ := Lib.hid hj
              clear hj hXW hTW hUW hC hfh hqh hk h64
              go_wp2_with (go_at_call 64; refine HJ.out.mono ?_; rintro e w3 ⟨rfl, hu3, hb3⟩; have HU3 := Lib.hid hu3; have HB3 := Lib.hid hb3; clear hu3 hb3)
              refine ⟨⟨m + 1, hmq, ?_, ?_, HUW.out.trans HU3.out⟩, by simp only [intOf]; omega⟩
              · rw [Nat.add_mul, HF.out]; simp
              · show BigW g n (joinG cM (planTurn n) q (m * (h + h)) h _) w3
                rw [← HS2.out, HF.out]
                exact HB3.out
            · have e : n = f := by
                have := Nat.mul_le_mul_right sz hm
                rw [hf, HQN.out] at this
                omega
              subst e
              have hszp : 0 < sz := by have := HS2.out; omega
              have hfn' : ¬ (n : Int) < n := by omega
              have hmq : m = q := Nat.eq_of_mul_eq_mul_right hszp (hf.trans HQN.out.symm)
              subst hmq
              clear hf
              go_wp2_with fail
              refine ⟨⟨t + 1, hts, ?_, ?_, HUM.out⟩, by simp only [intOf]; omega⟩
              · rw [Nat.pow_succ, HSZ.out]; simp
              · show BigW g n (stageG cM (planTurn n) (n / 2 ^ (t + 1)) (2 ^ t) _ (n / 2 ^ (t + 1))) wr
                rw [HSZ.out, HHH.out, HQ.out]
                exact HBM.out
        · have hle' : ¬ (sz : Int) ≤ n := by omega
          have hts : t = s := by
            rcases Nat.lt_or_ge t s with e | e
            · have := Nat.pow_le_pow_right (n := 2) (by decide) (show t + 1 ≤ s from e)
              rw [hsz, HN.out] at this
              omega
            · omega
          subst hts
          have HBT := Lib.hid hb
          have HUT := Lib.hid hu
          clear hb hu hsz hszh hh
          go_wp2_with fail
          go_ret
          exact ⟨rfl, HUT.out, HBT.out⟩
end Go.Proofs.YtcibajleknhklaaDoor
end

section
namespace Go.Proofs.YtcibajleknhklaaDoor
open Go.RowKit Go.BigFrame Go.Proofs.YtcibajleknhklaaDoorW.PrintWords Go.Proofs.YtcibajleknhklaaDoorW.PrintLast Go.Proofs.YtcibajleknhklaaDoorW.PrintMore
set_option linter.unusedSimpArgs false
set_option linter.unusedVariables false
/-- Blocks below B stay; of the others one alone may be written, and rows that were begun as tn tells stay rows. -/
structure AT (B : Nat) (e : TypeId) (sz : Nat) (g : Option Nat) (tn : Nat → List Value) (m : Nat) (W W' : World) : Prop where
  below : Below B W W'
  grow : W.grownBy W' g
  keep : ∀ v j, j ≤ m → W.ownsRow B e sz v j (tn j) → W'.ownsRow B e sz v j (tn j)
theorem AT.of_below {B e sz g tn m} {W W' : World} (h : Below W.heap.size W W') (hB : B ≤ W.heap.size) : AT B e sz g tn m W W' :=
  ⟨h.mono hB, ⟨h.os, h.tape, h.output, h.size, fun k hk _ => h.block k hk⟩, fun _ _ _ ho => ownsRow_below ho h⟩
theorem AT.trans {B e sz g tn m} {W W1 W2 : World} (h : AT B e sz g tn m W W1) (k : AT B e sz g tn m W1 W2) : AT B e sz g tn m W W2 :=
  ⟨h.below.trans k.below, ⟨k.grow.os.trans h.grow.os, k.grow.tape.trans h.grow.tape, k.grow.output.trans h.grow.output, Nat.le_trans h.grow.size k.grow.size,
    fun i hi hg => (k.grow.block i (Nat.lt_of_lt_of_le hi h.grow.size) hg).trans (h.grow.block i hi hg)⟩, fun v j hj ho => k.keep v j hj (h.keep v j hj ho)⟩
theorem append_at {P : Program} {ops : Array Oper} {rest : List Oper} {o : Oper} {a : Act} {Q : Exit → Act → World → Prop} {w : World} (hgd : o.guard = none) (s x : Operand) (t : TypeId)
    (ho : o.op = .call { callee := .builtin .append, args := #[s, x], argTypes := #[t, t] })
    (B : Nat) (e e' : TypeId) (z : Value) (size bytes : Nat) (ht : P.underlying t = some (.slice e)) (hi : (P.info? e).map (fun i => (i.zero, i.size, i.bytes)) = some (some z, size, bytes))
    (hzs : z.cells.size = size) (hsz : 0 < size)
    (v : Value) (k : Nat) (tn : Nat → List Value) (hs : a.eval s = v) (hown : w.ownsRow B e size v k (tn k))
    (q : Nat) (news : List Value) (hx : a.eval x = .slice (some ⟨q, 0, none⟩) 1 1) (hq : w.heap[q]? = some (.cells news.toArray e' (0, 0))) (hl : news.length = size) (h1 : ∀ u ∈ news, u.oneCell' = true)
    (h63 : k + 1 ≤ maxLen) (hbytes : (k + 1) * bytes ≤ 140737488355328) (hbase : B ≤ w.heap.size) (htn : tn (k + 1) = tn k ++ news)
    (h : ∀ g' c' w', w'.ownsRow B e size (.slice (some ⟨g', 0, none⟩) (k + 1) c') (k + 1) (tn (k + 1)) → AT B e size v.ownBlock tn (k + 1) w w' → wpList P ops Q rest (a.put o.dst (.slice (some ⟨g', 0, none⟩) (k + 1) c')) w') :
    wpList P ops Q (o :: rest) a w := by
  obtain ⟨i0, hi0, hz0, hz1, hz2⟩ := info_parts hi
  have hcell : ∀ j u, news[j]? = some u → w.cell? ((⟨q, 0, none⟩ : Addr).add j) = some u := by
    intro j u hj
    have : (⟨q, 0, none⟩ : Addr).add j = ⟨q, j, none⟩ := by unfold Addr.add; split <;> simp_all
    rw [this]
    unfold World.cell?
    rw [hq]
    simpa using hj
  have hgrow : ∀ v' w', w'.ownsRow w.heap.size e size v' (k + 1) (tn k ++ news) → w.grownBy w' none → wpList P ops Q rest (a.put o.dst v') w' := by
    intro v' w' h2 h3
    have hb : Below w.heap.size w w' := ⟨h3.os, h3.tape, h3.output, h3.size, fun i hi => h3.block i hi (by simp)⟩
    obtain ⟨g', c', rfl, hg1, hg2⟩ := own_form h2 (by omega)
    refine h g' c' w' ?_ (AT.of_below hb hbase)
    rw [htn]
    exact ⟨h2.1, h2.2.imp id fun ⟨g, cap, cur, a1, a2, a3⟩ => ⟨g, cap, cur, a1, Nat.le_trans hbase a2, a3⟩⟩
  rcases hown.2 with ⟨rfl, rfl⟩ | ⟨g, cap, cur, rfl, hbg, hg, hnc, hcm, hcs, htake⟩
  · refine wpList_append_grows w hgd s x t ho e i0 z size bytes ht hi0 hz0 hz1 hz2 hzs hsz none 0 0 (tn 0) hs (fun _ => ⟨rfl, rfl⟩) hown.1 (fun b hb => by cases hb) ⟨q, 0, none⟩ 1 1 news hx (by omega) hcell h1 (by omega) h63 hbytes hgrow
  · have hcl : ∀ j u, (tn k)[j]? = some u → w.cell? ⟨g, 0 + j, none⟩ = some u := fun j u hj => by
      have := hown.cells (g := g) rfl j u hj
      rw [Addr.add_lit] at this
      exact this
    have hfit : k + 1 ≤ cap → 0 + k * size + news.length ≤ cur.size := fun hr => by
      rw [hl, hcs]
      have := Nat.mul_le_mul_right size hr
      rw [Nat.add_mul] at this
      omega
    refine wpList_append_arg w hgd s x t ho e i0 z size bytes ht hi0 hz0 hz1 hz2 hzs hsz g 0 k cap (tn k) hs hown.1 hcl ⟨q, 0, none⟩ 1 1 news hx (by omega) hcell h1 (fun hr j hj => ?_) h63 hbytes (fun hr => ?_) (fun _ => hgrow)
    · have hf := block_facts hg
      have hlt : 0 + k * size + j < cur.size := by have := hfit hr; omega
      rw [hf.1, hf.2.1]
      exact ⟨by rw [Array.getElem?_eq_getElem hlt]; rfl, rfl⟩
    · obtain ⟨cur', e1, e2, e3⟩ := setCells_row news (0 + k * size) w _ hg (hfit hr)
      have ho1 := only_setCells w g (0 + k * size) news
      have hlow := ho1.below (Below.refl B w) hbg
      have hlen : (tn k ++ news).length = (k + 1) * size := by rw [List.length_append, hown.1, hl, Nat.add_mul]; omega
      have htk : cur'.toList.take ((k + 1) * size) = tn k ++ news := by
        rw [e3, Nat.zero_add, htake, ← hlen]
        exact List.take_left
      refine h g cap _ ?_ ⟨hlow, ⟨ho1.os, ho1.tape, ho1.output, Nat.le_of_eq ho1.size.symm, fun i hi hne => ho1.block i (fun e => hne (by rw [e]; rfl))⟩, ?_⟩
      · exact ⟨by rw [htn]; exact hlen, .inr ⟨g, cap, cur', rfl, hbg, e1, hr, hcm, e2.trans hcs, by rw [htn]; exact htk⟩⟩
      · rintro u j hj ⟨b1, b2 | ⟨g0, cap0, cur0, b2, b3, b4, b5, b6, b7, b8⟩⟩
        · exact ⟨b1, .inl b2⟩
        · by_cases hgg : g0 = g
          · subst hgg
            rw [hg] at b4
            cases b4
            refine ⟨b1, .inr ⟨g0, cap0, cur', b2, b3, e1, b5, b6, e2.trans b7, ?_⟩⟩
            by_cases hjk : j ≤ k
            · have hjs : j * size ≤ k * size := Nat.mul_le_mul_right _ hjk
              have h5 : (tn k).take (j * size) = tn j := by rw [← htake, List.take_take, Nat.min_eq_left hjs]; exact b8
              rw [e3, Nat.zero_add, htake, List.append_assoc, List.take_append_of_le_length (by rw [hown.1]; exact hjs)]
              exact h5
            · obtain rfl : j = k + 1 := by omega
              rw [htk, htn]
          · exact ⟨b1, .inr ⟨g0, cap0, cur0, b2, b3, (ho1.block g0 hgg).trans b4, b5, b6, b7, b8⟩⟩
end Go.Proofs.YtcibajleknhklaaDoor
end

section
namespace Go.Proofs.YtcibajleknhklaaDoor
open Go.RowKit Go.BigFrame Go.Proofs.YtcibajleknhklaaDoorW.PrintWords Go.Proofs.YtcibajleknhklaaDoorW.PrintLast Go.Proofs.YtcibajleknhklaaDoorW.PrintMore
open PFftOrders RFftOrders
set_option linter.unusedSimpArgs false
set_option linter.unusedVariables false
def pairCells (p : Int × Int) : List Value := [.int .i64 p.1, .int .i64 p.2]
def turnsTo (n k : Nat) : List Value := ((List.range k).map fun i : Nat => turnF ((i : Int) * 256 / (n : Int))).flatMap pairCells
theorem own_only {w w' : World} {base p : Nat} {e : TypeId} {size n : Nat} {v : Value} {xs : List Value} (h : w.ownsRow base e size v n xs) (ho : Only p w w') (hp : p < base) : w'.ownsRow base e size v n xs := by
  obtain ⟨h1, h2 | ⟨g, cap, cur, h2, h3, h4, h5⟩⟩ := h
  · exact ⟨h1, .inl h2⟩
  · exact ⟨h1, .inr ⟨g, cap, cur, h2, h3, (ho.block g (by omega)).trans h4, h5⟩⟩
theorem own_mono {w : World} {base base' : Nat} {e : TypeId} {size : Nat} {v : Value} {n : Nat} {xs : List Value} (h : w.ownsRow base e size v n xs) (hb : base' ≤ base) : w.ownsRow base' e size v n xs :=
  ⟨h.1, h.2.imp id fun ⟨g, cap, cur, h1, h2, h3⟩ => ⟨g, cap, cur, h1, Nat.le_trans hb h2, h3⟩⟩
theorem turnsTo_succ (n k : Nat) : turnsTo n (k + 1) = turnsTo n k ++ [.int .i64 (turnF ((k : Int) * 256 / (n : Int))).1, .int .i64 (turnF ((k : Int) * 256 / (n : Int))).2] := by
  simp [turnsTo, List.range_succ, pairCells]
theorem pairInfo : (Tryd.prog.info? 49).map (fun i => (i.zero, i.size, i.bytes)) = some (some (.agg #[.int .i64 0, .int .i64 0]), 2, 16) := by kernel_rfl
set_option maxHeartbeats 2000000 in
set_option maxRecDepth 100000 in
theorem new_any (s : Nat) (hs : s < 5) (w : World) (hC : CosW w) :
    Calls Tryd.prog 18 #[.int .i64 ((2 ^ s : Nat) : Int)] w fun e w' => ∃ pb ob tv, e = .returned (.tuple #[.pointer (some ⟨pb, 0, none⟩), .int .i64 0]) ∧ w.heap.size ≤ pb ∧ w.heap.size ≤ ob ∧ pb ≠ ob ∧
      w'.heap[pb]? = some (.cells #[.slice (some ⟨ob, 0, none⟩) (2 ^ s) (2 ^ s), tv] 130 (0, 0)) ∧ Bx ob 3 kI (2 ^ s) (fun j => (revF s j : Int)) w' ∧
      w'.ownsRow w.heap.size 49 2 tv (2 ^ s / 2) (turnsTo (2 ^ s) (2 ^ s / 2)) ∧ Below w.heap.size w w' := by
  have HT := Lib.hid (fun w => fft_there.calls _ _ w (there_pow ⟨s, hs⟩))
  have HO := Lib.hid (fun w => order_any s hs w)
  have HC := Lib.hid hC
  obtain ⟨n, hn⟩ : ∃ n : Nat, 2 ^ s = n := ⟨_, rfl⟩
  have hn1 : 0 < n := by rw [← hn]; exact Nat.pow_pos (by decide)
  have hn16 : n ≤ 16 := by rw [← hn]; exact Nat.pow_le_pow_right (by decide) (show s ≤ 4 by omega)
  simp only at HT
  rw [hn] at HT HO ⊢
  have HN := Lib.hid hn
  obtain ⟨m, hm⟩ : ∃ m : Nat, n / 2 = m := ⟨_, rfl⟩
  have hdiv : (n : Int) / 2 = (m : Int) := by omega
  have hmn : m ≤ n := by omega
  rw [hm]
  have HM := Lib.hid hm
  have HDIV := Lib.hid hdiv
  clear hn hC hm hdiv
  have T1 := turn_any
  unfold pairAgg at T1
  have HTU := Lib.hid T1
  clear T1
  go_enter Tryd.func18, Tryd.ntmps18
  go_wp2_with fail
  refine (HT.out _).mono ?_
  rintro e w1 ⟨rfl, hd⟩
  have hw1 : Below w.heap.size w w1 := Below.trans (by (repeat' (first | (with_reducible exact Below.refl _ _) | (with_reducible assumption) | (with_reducible refine Below.alloc ?_ ?_ _) | (with_reducible refine below_grew ?_ ?_ _) | (with_reducible refine Below.setCell ?_ ?_ _) | (with_reducible refine Below.drew ?_) | (with_reducible refine below_drewN ?_ _) | omega | (simp; done) | (simp; omega)))) (hd.below.mono (by simp))
  have HW1 := Lib.hid hw1
  clear hd hw1
  go_wp2_with fail
  refine (HO.out _).mono ?_
  rintro e w2 ⟨ob, rfl, hob, hbo, hb2⟩
  have hw2 : Below w.heap.size w w2 := HW1.out.trans (hb2.mono HW1.out.size)
  have hob' : w.heap.size ≤ ob := Nat.le_trans HW1.out.size hob
  have HBO := Lib.hid hbo
  have HW2 := Lib.hid hw2
  clear hbo hw2 hb2 hob
  go_wp2_with fail
  rw [HDIV.out]
  obtain ⟨pb, hpb⟩ : ∃ pb, w2.heap.size = pb := ⟨_, rfl⟩
  have hop : ob < pb := by have := (block_facts HBO.out).2.2; omega
  have hpo : pb ≠ ob := by have := (block_facts HBO.out).2.2; omega
  have hpw : w.heap.size ≤ pb := by have := HW2.out.size; omega
  rw [hpb]
  go_loopw [15] (fun cnt wr => ∃ k : Nat, k ≤ m ∧ cnt = .int .i64 k ∧ ∃ tv, wr.heap[pb]? = some (.cells #[.slice (some ⟨ob, 0, none⟩) n n, tv] 130 (0, 0)) ∧ Bx ob 3 kI n (fun j => (revF s j : Int)) wr ∧
      wr.ownsRow (pb + 1) 49 2 tv k (turnsTo n k) ∧ Below w.heap.size w wr) (fun cnt _ => m - (intOf cnt).toNat)
  case atStart =>
    refine ⟨0, by omega, rfl, .slice none 0 0, by rw [← hpb]; exact alloc_at _ _, HBO.out.keep (by (repeat' (first | (with_reducible exact Below.refl _ _) | (with_reducible assumption) | (with_reducible refine Below.alloc ?_ ?_ _) | (with_reducible refine below_grew ?_ ?_ _) | (with_reducible refine Below.setCell ?_ ?_ _) | (with_reducible refine Below.drew ?_) | (with_reducible refine below_drewN ?_ _) | omega | (simp; done) | (simp; omega)))), World.ownsRow_nil _ _ _ _, by have := HW2.out; (repeat' (first | (with_reducible exact Below.refl _ _) | (with_reducible assumption) | (with_reducible refine Below.alloc ?_ ?_ _) | (with_reducible refine below_grew ?_ ?_ _) | (with_reducible refine Below.setCell ?_ ?_ _) | (with_reducible refine Below.drew ?_) | (with_reducible refine below_drewN ?_ _) | omega | (simp; done) | (simp; omega)))⟩
  case round =>
    obtain ⟨k, hk, rfl, tv, hc, hb, hR, hB⟩ := hrel
    have HB := Lib.hid hB
    have HBX := Lib.hid hb
    have HR := Lib.hid hR
    have HCC := Lib.hid hc
    have hcell := (block_facts hc).1 1
    have hfz := (block_facts hc).2.1 1
    have hpl := (block_facts hc).2.2
    clear hB hb hR hc
    by_cases hlt : k < m
    · have hlt' : (k : Int) < (m : Int) := by omega
      have hmm : ((k : Int) * 256 + 9223372036854775808) % 18446744073709551616 - 9223372036854775808 = (k : Int) * 256 := by omega
      have hmw : IntKind.i64.wrap ((k : Int) * 256) = ((k * 256 : Nat) : Int) := by rw [wr_small (by omega) (by omega)]; omega
      have hn0 : ((n : Int) == 0) = false := beq_eq_false_iff_ne.mpr (by omega)
      have hTV : CosW wr := HC.out.below HB.out
      have HTV := Lib.hid hTV
      clear hTV
      go_wp2_with fail
      have hbs : pb + 1 ≤ wr.heap.size := by omega
      have hpw1 : w.heap.size ≤ pb + 1 := by omega
      have hop1 : pb < pb + 1 := by omega
      refine wp_region_inv [] (fun W => AT (pb + 1) 49 2 tv.ownBlock (turnsTo n) (k + 1) wr W) (fun W W' => AT (pb + 1) 49 2 tv.ownBlock (turnsTo n) (k + 1) W W') 12 (by kernel_rfl) (by kernel_rfl) (by kernel_rfl) (AT.of_below ((Below.refl _ _).drew) hbs) (fun W W' h h' => h.trans h') (fun _ _ h => h.grow.size) ?_
      simp only [List.take_succ_cons, List.take_zero, List.drop_succ_cons, List.drop_zero]
      refine wpInv_det (by kernel_rfl) (by kernel_rfl) ?_
      apply Exists.intro
      refine ⟨?_, ?_, ?_⟩
      · intro U W hC hH
        have hws := Nat.le_trans hbs hC.grow.size
        simp only [HypsU, predsOf, Region.binds, List.filterMap_cons, List.filterMap_nil, if_true, List.nil_append, List.cons_append, List.getD_cons_zero, List.getD_cons_succ] at hH
        simp only [fillPuts, Act.put, List.setIfInBounds_toArray, List.set_cons_zero, List.set_cons_succ, Nat.reduceAdd]
        go_wp2_with fail
        refine ⟨rfl, rfl, AT.of_below (by (repeat' (first | (with_reducible exact Below.refl _ _) | (with_reducible assumption) | (with_reducible refine Below.alloc ?_ ?_ _) | (with_reducible refine below_grew ?_ ?_ _) | (with_reducible refine Below.setCell ?_ ?_ _) | (with_reducible refine Below.drew ?_) | (with_reducible refine below_drewN ?_ _) | omega | (simp; done) | (simp; omega)))) hws, ?_⟩
        conv => lhs; whnf
        try rfl
      · exact fun _ => rfl
      simp only [List.nil_append, List.cons_append, Nat.reduceAdd]
      refine wpInv_det (by kernel_rfl) (by kernel_rfl) ?_
      apply Exists.intro
      refine ⟨?_, ?_, ?_⟩
      · intro U W hC hH
        have hws := Nat.le_trans hbs hC.grow.size
        simp only [HypsU, predsOf, Region.binds, List.filterMap_cons, List.filterMap_nil, if_true, List.nil_append, List.cons_append, List.getD_cons_zero, List.getD_cons_succ] at hH
        simp only [fillPuts, Act.put, List.setIfInBounds_toArray, List.set_cons_zero, List.set_cons_succ, Nat.reduceAdd]
        go_wp2_with fail
        refine ⟨rfl, rfl, AT.of_below (by (repeat' (first | (with_reducible exact Below.refl _ _) | (with_reducible assumption) | (with_reducible refine Below.alloc ?_ ?_ _) | (with_reducible refine below_grew ?_ ?_ _) | (with_reducible refine Below.setCell ?_ ?_ _) | (with_reducible refine Below.drew ?_) | (with_reducible refine below_drewN ?_ _) | omega | (simp; done) | (simp; omega)))) hws, ?_⟩
        conv => lhs; whnf
        try rfl
      · exact fun _ => rfl
      simp only [List.nil_append, List.cons_append, Nat.reduceAdd]
      refine wpInv_det (by kernel_rfl) (by kernel_rfl) ?_
      apply Exists.intro
      refine ⟨?_, ?_, ?_⟩
      · intro U W hC hH
        have hws := Nat.le_trans hbs hC.grow.size
        simp only [HypsU, predsOf, Region.binds, List.filterMap_cons, List.filterMap_nil, if_true, List.nil_append, List.cons_append, List.getD_cons_zero, List.getD_cons_succ] at hH
        simp only [fillPuts, Act.put, List.setIfInBounds_toArray, List.set_cons_zero, List.set_cons_succ, Nat.reduceAdd]
        go_wp2_with fail
        refine ⟨rfl, rfl, AT.of_below (by (repeat' (first | (with_reducible exact Below.refl _ _) | (with_reducible assumption) | (with_reducible refine Below.alloc ?_ ?_ _) | (with_reducible refine below_grew ?_ ?_ _) | (with_reducible refine Below.setCell ?_ ?_ _) | (with_reducible refine Below.drew ?_) | (with_reducible refine below_drewN ?_ _) | omega | (simp; done) | (simp; omega)))) hws, ?_⟩
        conv => lhs; whnf
        try rfl
      · exact fun _ => rfl
      simp only [List.nil_append, List.cons_append, Nat.reduceAdd]
      refine wpInv_det (by kernel_rfl) (by kernel_rfl) ?_
      apply Exists.intro
      refine ⟨?_, ?_, ?_⟩
      · intro U W hC hH
        have hws := Nat.le_trans hbs hC.grow.size
        simp only [HypsU, predsOf, Region.binds, List.filterMap_cons, List.filterMap_nil, if_true, List.nil_append, List.cons_append, List.getD_cons_zero, List.getD_cons_succ] at hH
        simp only [fillPuts, Act.put, List.setIfInBounds_toArray, List.set_cons_zero, List.set_cons_succ, Nat.reduceAdd]
        go_wp2_with fail
        refine ⟨rfl, rfl, AT.of_below (by (repeat' (first | (with_reducible exact Below.refl _ _) | (with_reducible assumption) | (with_reducible refine Below.alloc ?_ ?_ _) | (with_reducible refine below_grew ?_ ?_ _) | (with_reducible refine Below.setCell ?_ ?_ _) | (with_reducible refine Below.drew ?_) | (with_reducible refine below_drewN ?_ _) | omega | (simp; done) | (simp; omega)))) hws, ?_⟩
        conv => lhs; whnf
        try rfl
      · exact fun _ => rfl
      simp only [List.nil_append, List.cons_append, Nat.reduceAdd]
      refine wpInv_det (by kernel_rfl) (by kernel_rfl) ?_
      apply Exists.intro
      refine ⟨?_, ?_, ?_⟩
      · intro U W hC hH
        have hws := Nat.le_trans hbs hC.grow.size
        simp only [HypsU, predsOf, Region.binds, List.filterMap_cons, List.filterMap_nil, if_true, List.nil_append, List.cons_append, List.getD_cons_zero, List.getD_cons_succ] at hH
        simp only [fillPuts, Act.put, List.setIfInBounds_toArray, List.set_cons_zero, List.set_cons_succ, Nat.reduceAdd]
        have hcl := (hC.below.cell (p := ⟨pb, 1, none⟩) hop1).trans hcell; go_wp2_with fail
        refine ⟨rfl, rfl, AT.of_below (by (repeat' (first | (with_reducible exact Below.refl _ _) | (with_reducible assumption) | (with_reducible refine Below.alloc ?_ ?_ _) | (with_reducible refine below_grew ?_ ?_ _) | (with_reducible refine Below.setCell ?_ ?_ _) | (with_reducible refine Below.drew ?_) | (with_reducible refine below_drewN ?_ _) | omega | (simp; done) | (simp; omega)))) hws, ?_⟩
        conv => lhs; whnf
        try rfl
      · exact fun _ => rfl
      simp only [List.nil_append, List.cons_append, Nat.reduceAdd]
      refine wpInv_det (by kernel_rfl) (by kernel_rfl) ?_
      apply Exists.intro
      refine ⟨?_, ?_, ?_⟩
      · intro U W hC hH
        have hws := Nat.le_trans hbs hC.grow.size
        simp only [HypsU, predsOf, Region.binds, List.filterMap_cons, List.filterMap_nil, if_true, List.nil_append, List.cons_append, List.getD_cons_zero, List.getD_cons_succ] at hH
        simp only [fillPuts, Act.put, List.setIfInBounds_toArray, List.set_cons_zero, List.set_cons_succ, Nat.reduceAdd]
        go_wp2_with fail
        refine ⟨rfl, rfl, AT.of_below (by (repeat' (first | (with_reducible exact Below.refl _ _) | (with_reducible assumption) | (with_reducible refine Below.alloc ?_ ?_ _) | (with_reducible refine below_grew ?_ ?_ _) | (with_reducible refine Below.setCell ?_ ?_ _) | (with_reducible refine Below.drew ?_) | (with_reducible refine below_drewN ?_ _) | omega | (simp; done) | (simp; omega)))) hws, ?_⟩
        conv => lhs; whnf
        try rfl
      · exact fun _ => rfl
      simp only [List.nil_append, List.cons_append, Nat.reduceAdd]
      refine wpInv_det (by kernel_rfl) (by kernel_rfl) ?_
      apply Exists.intro
      refine ⟨?_, ?_, ?_⟩
      · intro U W hC hH
        have hws := Nat.le_trans hbs hC.grow.size
        simp only [HypsU, predsOf, Region.binds, List.filterMap_cons, List.filterMap_nil, if_true, List.nil_append, List.cons_append, List.getD_cons_zero, List.getD_cons_succ] at hH
        simp only [fillPuts, Act.put, List.setIfInBounds_toArray, List.set_cons_zero, List.set_cons_succ, Nat.reduceAdd]
        go_wp2_with fail
        refine ⟨rfl, rfl, AT.of_below (by (repeat' (first | (with_reducible exact Below.refl _ _) | (with_reducible assumption) | (with_reducible refine Below.alloc ?_ ?_ _) | (with_reducible refine below_grew ?_ ?_ _) | (with_reducible refine Below.setCell ?_ ?_ _) | (with_reducible refine Below.drew ?_) | (with_reducible refine below_drewN ?_ _) | omega | (simp; done) | (simp; omega)))) hws, ?_⟩
        conv => lhs; whnf
        try rfl
      · exact fun _ => rfl
      simp only [List.nil_append, List.cons_append, Nat.reduceAdd]
      refine wpInv_det (by kernel_rfl) (by kernel_rfl) ?_
      apply Exists.intro
      refine ⟨?_, ?_, ?_⟩
      · intro U W hC hH
        have hws := Nat.le_trans hbs hC.grow.size
        simp only [HypsU, predsOf, Region.binds, List.filterMap_cons, List.filterMap_nil, if_true, List.nil_append, List.cons_append, List.getD_cons_zero, List.getD_cons_succ] at hH
        simp only [fillPuts, Act.put, List.setIfInBounds_toArray, List.set_cons_zero, List.set_cons_succ, Nat.reduceAdd]
        go_wp2_with fail
        refine ⟨rfl, rfl, AT.of_below (by (repeat' (first | (with_reducible exact Below.refl _ _) | (with_reducible assumption) | (with_reducible refine Below.alloc ?_ ?_ _) | (with_reducible refine below_grew ?_ ?_ _) | (with_reducible refine Below.setCell ?_ ?_ _) | (with_reducible refine Below.drew ?_) | (with_reducible refine below_drewN ?_ _) | omega | (simp; done) | (simp; omega)))) hws, ?_⟩
        conv => lhs; whnf
        try rfl
      · exact fun _ => rfl
      simp only [List.nil_append, List.cons_append, Nat.reduceAdd]
      refine wpInv_det (by kernel_rfl) (by kernel_rfl) ?_
      apply Exists.intro
      refine ⟨?_, ?_, ?_⟩
      · intro U W hC hH
        have hws := Nat.le_trans hbs hC.grow.size
        simp only [HypsU, predsOf, Region.binds, List.filterMap_cons, List.filterMap_nil, if_true, List.nil_append, List.cons_append, List.getD_cons_zero, List.getD_cons_succ] at hH
        simp only [fillPuts, Act.put, List.setIfInBounds_toArray, List.set_cons_zero, List.set_cons_succ, Nat.reduceAdd]
        go_wp2_with fail
        refine ⟨rfl, rfl, AT.of_below (by (repeat' (first | (with_reducible exact Below.refl _ _) | (with_reducible assumption) | (with_reducible refine Below.alloc ?_ ?_ _) | (with_reducible refine below_grew ?_ ?_ _) | (with_reducible refine Below.setCell ?_ ?_ _) | (with_reducible refine Below.drew ?_) | (with_reducible refine below_drewN ?_ _) | omega | (simp; done) | (simp; omega)))) hws, ?_⟩
        conv => lhs; whnf
        try rfl
      · exact fun _ => rfl
      simp only [List.nil_append, List.cons_append, Nat.reduceAdd]
      refine wpInv_det (by kernel_rfl) (by kernel_rfl) ?_
      apply Exists.intro
      refine ⟨?_, ?_, ?_⟩
      · intro U W hC hH
        have hws := Nat.le_trans hbs hC.grow.size
        simp only [HypsU, predsOf, Region.binds, List.filterMap_cons, List.filterMap_nil, if_true, List.nil_append, List.cons_append, List.getD_cons_zero, List.getD_cons_succ] at hH
        simp only [fillPuts, Act.put, List.setIfInBounds_toArray, List.set_cons_zero, List.set_cons_succ, Nat.reduceAdd]
        go_wp2_with fail; refine (HTU.out _ _ (HC.out.below (HB.out.trans (hC.below.mono hpw1)))).mono ?_; rintro e w' ⟨rfl, hb1⟩; obtain ⟨x1, rfl⟩ := below_as_grew hb1; clear hb1; go_wp2_with fail
        refine ⟨rfl, rfl, AT.of_below (by (repeat' (first | (with_reducible exact Below.refl _ _) | (with_reducible assumption) | (with_reducible refine Below.alloc ?_ ?_ _) | (with_reducible refine below_grew ?_ ?_ _) | (with_reducible refine Below.setCell ?_ ?_ _) | (with_reducible refine Below.drew ?_) | (with_reducible refine below_drewN ?_ _) | omega | (simp; done) | (simp; omega)))) hws, ?_⟩
        conv => lhs; whnf
        try rfl
      · exact fun _ => rfl
      simp only [List.nil_append, List.cons_append, Nat.reduceAdd]
      obtain ⟨T, hT⟩ : ∃ T : Int × Int, T = turnF ((k : Int) * 256 / (n : Int)) := ⟨_, rfl⟩
      have HTT := Lib.hid hT
      refine ⟨fun U W => ∃ q, U 10 = .slice (some ⟨q, 0, none⟩) 1 1 ∧ wr.heap.size ≤ q ∧ W.heap[q]? = some (.cells #[.int .i64 T.1, .int .i64 T.2] 49 (0, 0)), fun _ _ => rfl, ?_, ?_, ?_⟩
      · rintro U W W' hC hT ⟨q, h0, hq, hqc⟩
        exact ⟨q, h0, hq, (hT.grow.block q (Array.getElem?_eq_some_iff.1 hqc).1 (fun e => by have := (own_lt' HR.out q e.symm).2; omega)).trans hqc⟩
      · intro U W hC hH
        have hws := Nat.le_trans hbs hC.grow.size
        simp only [HypsU, predsOf, Region.binds, List.filterMap_cons, List.filterMap_nil, if_true, List.nil_append, List.cons_append, List.getD_cons_zero, List.getD_cons_succ] at hH
        simp only [fillPuts, Act.put, List.setIfInBounds_toArray, List.set_cons_zero, List.set_cons_succ, Nat.reduceAdd]
        go_wp2_with fail
        rw [← hT]
        refine ⟨rfl, rfl, AT.of_below (by (repeat' (first | (with_reducible exact Below.refl _ _) | (with_reducible assumption) | (with_reducible refine Below.alloc ?_ ?_ _) | (with_reducible refine below_grew ?_ ?_ _) | (with_reducible refine Below.setCell ?_ ?_ _) | (with_reducible refine Below.drew ?_) | (with_reducible refine below_drewN ?_ _) | omega | (simp; done) | (simp; omega)))) hws, ⟨_, updU_eq _ _ _, hC.grow.size, alloc_at _ _⟩, fun h => by cases h⟩
      clear hT
      simp only [List.nil_append, List.cons_append, Nat.reduceAdd]
      refine ⟨fun U W => ∃ g c, U 11 = .slice (some ⟨g, 0, none⟩) (k + 1) c ∧ W.ownsRow (pb + 1) 49 2 (.slice (some ⟨g, 0, none⟩) (k + 1) c) (k + 1) (turnsTo n (k + 1)), fun _ _ => rfl, ?_, ?_, ?_⟩
      · rintro U W W' hC hT ⟨g, c, h0, ho⟩
        exact ⟨g, c, h0, hT.keep _ _ (Nat.le_refl _) ho⟩
      · intro U W hC hH
        have hws := Nat.le_trans hbs hC.grow.size
        simp only [HypsU, predsOf, Region.binds, List.filterMap_cons, List.filterMap_nil, if_true, List.nil_append, List.cons_append, List.getD_cons_zero, List.getD_cons_succ] at hH
        simp only [fillPuts, Act.put, List.setIfInBounds_toArray, List.set_cons_zero, List.set_cons_succ, Nat.reduceAdd]
        obtain ⟨h4, ⟨q, h10, hq, hqc⟩, -⟩ := hH
        simp only [h4, h10]
        have hRW := hC.keep tv k (by omega) HR.out
        refine append_at rfl _ _ 32 rfl (pb + 1) 49 49 (.agg #[.int .i64 0, .int .i64 0]) 2 16 Tryd.underlying32 pairInfo rfl (by decide) tv k (turnsTo n) rfl hRW q [_, _] rfl hqc rfl ?h1 ?h63 ?hby hws ?htn ?_
        (case h1 => simp [Value.oneCell']; done)
        (case h63 => exact maxLen_le (by omega))
        (case hby => omega)
        (case htn => rw [turnsTo_succ, HTT.out])
        intro g' c' w' hR' hAT
        refine ⟨rfl, rfl, hAT, ⟨g', c', updU_eq _ _ _, hR'⟩, fun h => by cases h⟩
      simp only [List.nil_append, List.cons_append, Nat.reduceAdd, fillPuts, Act.put, List.setIfInBounds_toArray, List.set_cons_zero, List.set_cons_succ]
      rintro U W hC ⟨h0, h1, h2, h3, h4, h5, h6, h7, h8, h9, -, ⟨g', c', h11, hR'⟩, -⟩ -
      simp only [h0, h1, h2, h3, h4, h5, h6, h7, h8, h9, h11]
      clear h0 h1 h2 h3 h4 h5 h6 h7 h8 h9 h11
      have hc2 : W.heap[pb]? = some (.cells #[.slice (some ⟨ob, 0, none⟩) n n, tv] 130 (0, 0)) := (hC.below.block pb hop1).trans HCC.out
      have hB2 : Below w.heap.size w W := HB.out.trans (hC.below.mono hpw1)
      have hbx2 : Bx ob 3 kI n (fun j => (revF s j : Int)) W := (hC.below.block ob (by omega)).trans HBX.out
      obtain ⟨v', hv'⟩ : ∃ v', v' = Value.slice (some ⟨g', 0, none⟩) (k + 1) c' := ⟨_, rfl⟩
      rw [← hv'] at hR'
      have hcl2 := (block_facts hc2).1 1
      have hfz2 := (block_facts hc2).2.1 1
      have hO := only_setCell W ⟨pb, 1, none⟩ v'
      have hc3 := setCell_own W pb 1 _ _ _ v' hc2
      have hR3 := own_only hR' hO (by show pb < pb + 1; omega)
      have hB3 := hO.below hB2 hpw
      have hbx3 := hbx2.only hO (Ne.symm hpo)
      have hRX : (W.setCell ⟨pb, 1, none⟩ v').ownsRow (pb + 1) 49 2 v' (k + 1) (turnsTo n (k + 1)) := hR3
      have HF := Lib.hid (And.intro hc3 (And.intro hbx3 (And.intro hRX hB3)))
      clear hc3 hR3 hB3 hbx3 hRX hO hbx2 hB2 hc2 hR' hC
      subst hv'
      go_wp2_with fail
      refine ⟨⟨k + 1, by omega, by go_num, _, HF.out.1, HF.out.2.1, HF.out.2.2.1, HF.out.2.2.2⟩, ?_⟩
      simp only [intOf]
      omega
    · have hlt' : ¬ (k : Int) < (m : Int) := by omega
      obtain rfl : k = m := by omega
      go_wp2_with fail
      go_ret2
      exact ⟨pb, rfl, hpw, ob, hob', hpo, tv, HCC.out, HBX.out, own_mono HR.out (by omega), HB.out⟩
end Go.Proofs.YtcibajleknhklaaDoor
end

section
namespace Go.Proofs.YtcibajleknhklaaDoor
open Go.RowKit Go.BigFrame Go.Proofs.YtcibajleknhklaaDoorW.PrintWords Go.Proofs.YtcibajleknhklaaDoorW.PrintLast Go.Proofs.YtcibajleknhklaaDoorW.PrintMore
open PFftOrders RFftOrders
set_option linter.unusedSimpArgs false
set_option linter.unusedVariables false
theorem turnsTo_len (n : Nat) : ∀ m, (turnsTo n m).length = m * 2
  | 0 => rfl
  | m + 1 => by rw [turnsTo_succ, List.length_append, turnsTo_len n m]; simp; omega
theorem turnsTo_get (n : Nat) : ∀ m k, k < m → (turnsTo n m)[k * 2]? = some (.int .i64 (planTurn n k).1) ∧ (turnsTo n m)[k * 2 + 1]? = some (.int .i64 (planTurn n k).2)
  | 0, k, h => by omega
  | m + 1, k, h => by
    have hl := turnsTo_len n m
    have e : planTurn n m = turnF ((m : Int) * 256 / (n : Int)) := by unfold planTurn; congr 1
    rw [turnsTo_succ]
    rcases Nat.lt_or_ge k m with h1 | h1
    · obtain ⟨a, b⟩ := turnsTo_get n m k h1
      rw [List.getElem?_append_left (by omega), List.getElem?_append_left (by omega)]
      exact ⟨a, b⟩
    · obtain rfl : k = m := by omega
      rw [List.getElem?_append_right (by omega), List.getElem?_append_right (by omega), hl, Nat.sub_self, show k * 2 + 1 - k * 2 = 1 from by omega, e]
      exact ⟨rfl, rfl⟩
/-- A plan: its struct at pb, its order at ob, its turns in the row tv. -/
structure PlanR (pb ob : Nat) (tv : Value) (s : Nat) (w : World) : Prop where
  ne : pb ≠ ob
  st : w.heap[pb]? = some (.cells #[.slice (some ⟨ob, 0, none⟩) (2 ^ s) (2 ^ s), tv] 130 (0, 0))
  ord : Bx ob 3 kI (2 ^ s) (fun j => (revF s j : Int)) w
  own : w.ownsRow 0 49 2 tv (2 ^ s / 2) (turnsTo (2 ^ s) (2 ^ s / 2))
theorem PlanR.keep {pb ob s : Nat} {tv : Value} {w w' : World} (h : PlanR pb ob tv s w) (hb : Below w.heap.size w w') : PlanR pb ob tv s w' :=
  ⟨h.ne, (hb.block pb (block_facts h.st).2.2).trans h.st, h.ord.keep hb, ownsRow_below h.own hb⟩
theorem PlanR.upd {pb ob s g : Nat} {tv : Value} {w w' : World} (h : PlanR pb ob tv s w) (hu : Upd g w w') (h1 : pb ≠ g) (h2 : ob ≠ g) (h3 : some g ≠ tv.ownBlock) : PlanR pb ob tv s w' := by
  refine ⟨h.ne, (hu.block pb (block_facts h.st).2.2 h1).trans h.st, (hu.block ob (block_facts h.ord).2.2 h2).trans h.ord, ?_⟩
  obtain ⟨a, b | ⟨g', cap, cur, b1, b2, b3, b4⟩⟩ := h.own
  · exact ⟨a, .inl b⟩
  · exact ⟨a, .inr ⟨g', cap, cur, b1, b2, (hu.block g' (Array.getElem?_eq_some_iff.1 b3).1 (fun e => h3 (by rw [b1, e]; rfl))).trans b3, b4⟩⟩
theorem into_plan (s : Nat) (hs : s < 5) (g zb pb ob cap zc : Nat) (tv : Value) (l : List (Int × Int)) (X : Nat → Int × Int) (w : World) (hP : PlanR pb ob tv s w) (hB : BigW g (2 ^ s) X w)
    (h1 : pb ≠ g) (h2 : ob ≠ g) (h3 : some g ≠ tv.ownBlock)
    (hZ : ∀ k, k < 2 ^ s → w.cell? ⟨zb, k * 2, none⟩ = some (.int .i64 (l.getD k (0, 0)).1) ∧ w.cell? ⟨zb, k * 2 + 1, none⟩ = some (.int .i64 (l.getD k (0, 0)).2)) (hzl : zb < w.heap.size) (hzg : zb ≠ g)
    (h64 : ∀ k, k < 2 ^ s → In64 (l.getD k (0, 0)).1 ∧ In64 (l.getD k (0, 0)).2) (hc : 2 ^ s ≤ cap) (hcc : cap ≤ 1000000) (hl : l.length = 2 ^ s) :
    Calls Tryd.prog 22 #[.pointer (some ⟨pb, 0, none⟩), .slice (some ⟨g, 0, none⟩) (2 ^ s) cap, .slice (some ⟨zb, 0, none⟩) (2 ^ s) zc] w fun e w' => e = .returned (.bool true) ∧ Upd g w w' ∧
      BigW g (2 ^ s) (fun k => sumTo s l k (2 ^ s)) w' := by
  have hpb := block_facts hP.st
  by_cases hs0 : 0 < s
  · have hm : 0 < 2 ^ s / 2 := by
      have := Nat.pow_le_pow_right (n := 2) (by decide) (show 1 ≤ s from hs0)
      omega
    obtain ⟨tb, tc, rfl, -, htl⟩ := own_form hP.own hm
    have hT : TurnsW pb tb (2 ^ s / 2) tc g (planTurn (2 ^ s)) w := ⟨h1, fun e => h3 (by rw [e]; rfl), hpb.2.2, htl, by rw [hpb.1]; rfl, fun k hk => by
      obtain ⟨a, b⟩ := turnsTo_get (2 ^ s) _ k hk
      have a1 := hP.own.cells (g := tb) rfl _ _ a
      have b1 := hP.own.cells (g := tb) rfl _ _ b
      rw [Addr.add_lit, Nat.zero_add] at a1 b1
      exact ⟨a1, b1⟩⟩
    refine (into_any s hs g zb pb ob tb tc cap zc (fun k => l.getD k (0, 0)) X w hB (by rw [hpb.1]; rfl) hpb.2.2 h1 hP.ord h2 (fun _ => hT) hZ hzl hzg h64 hc hcc).mono ?_
    rintro e w' ⟨rfl, hu, hb⟩
    exact ⟨rfl, hu, bigW_ext hb (fun k hk => fft_direct s (by omega) l k hk)⟩
  · refine (into_any s hs g zb pb ob 0 0 cap zc (fun k => l.getD k (0, 0)) X w hB (by rw [hpb.1]; rfl) hpb.2.2 h1 hP.ord h2 (fun h => absurd h hs0) hZ hzl hzg h64 hc hcc).mono ?_
    rintro e w' ⟨rfl, hu, hb⟩
    exact ⟨rfl, hu, bigW_ext hb (fun k hk => fft_direct s (by omega) l k hk)⟩
theorem new_plan (s : Nat) (hs : s < 5) (w : World) (hC : CosW w) :
    Calls Tryd.prog 18 #[.int .i64 ((2 ^ s : Nat) : Int)] w fun e w' => ∃ pb ob tv, e = .returned (.tuple #[.pointer (some ⟨pb, 0, none⟩), .int .i64 0]) ∧ w.heap.size ≤ pb ∧ w.heap.size ≤ ob ∧ (∀ k, tv.ownBlock = some k → w.heap.size ≤ k ∧ k < w'.heap.size) ∧ PlanR pb ob tv s w' ∧ Below w.heap.size w w' := by
  refine (new_any s hs w hC).mono ?_
  rintro e w' ⟨pb, ob, tv, rfl, h1, h2, h3, h4, h5, h6, h7⟩
  exact ⟨pb, ob, tv, rfl, h1, h2, fun k hk => own_lt' h6 k hk, ⟨h3, h4, h5, own_mono h6 (Nat.zero_le _)⟩, h7⟩
theorem bigW_new (w : World) (n : Nat) : BigW w.heap.size n (fun _ => (0, 0)) (w.alloc (.cells (ag kB (n * 4) fun _ => 0) BigT)) := by
  have e : ag kB (n * 4) (bigF fun _ => (0, 0)) = ag kB (n * 4) fun _ => 0 := ag_ext kB _ _ _ (fun j _ => by
    unfold bigF; (repeat' split) <;> first | (show accHi 0 = 0; decide +kernel) | (show accLo 0 = 0; decide +kernel))
  unfold BigW
  rw [Bx, e]
  exact alloc_at _ _
theorem big_zero (i : Nat) : (Value.agg #[.int .i64 0, .int .u64 0, .int .i64 0, .int .u64 0]).cells[i % (Value.agg #[.int .i64 0, .int .u64 0, .int .i64 0, .int .u64 0]).cells.size]! = .int (kB i) 0 := by
  have h : i % 4 = 0 ∨ i % 4 = 1 ∨ i % 4 = 2 ∨ i % 4 = 3 := by omega
  show (#[Value.int .i64 0, .int .u64 0, .int .i64 0, .int .u64 0] : Array Value)[i % 4]! = .int (kB i) 0
  unfold kB
  rcases h with h | h | h | h
  · rw [h, if_pos (by omega)]; rfl
  · rw [h, if_neg (by omega)]; rfl
  · rw [h, if_pos (by omega)]; rfl
  · rw [h, if_neg (by omega)]; rfl
set_option maxHeartbeats 2000000 in
set_option maxRecDepth 100000 in
theorem fast_any (s : Nat) (hs : s < 5) (zb zc : Nat) (l : List (Int × Int)) (w : World) (hC : CosW w)
    (hZ : ∀ k, k < 2 ^ s → w.cell? ⟨zb, k * 2, none⟩ = some (.int .i64 (l.getD k (0, 0)).1) ∧ w.cell? ⟨zb, k * 2 + 1, none⟩ = some (.int .i64 (l.getD k (0, 0)).2)) (hzl : zb < w.heap.size)
    (h64 : ∀ k, k < 2 ^ s → In64 (l.getD k (0, 0)).1 ∧ In64 (l.getD k (0, 0)).2) (hl : l.length = 2 ^ s) :
    Calls Tryd.prog 58 #[.slice (some ⟨zb, 0, none⟩) (2 ^ s) zc] w fun e w' => ∃ g, e = .returned (.slice (some ⟨g, 0, none⟩) (2 ^ s) (2 ^ s)) ∧ w.heap.size ≤ g ∧ BigW g (2 ^ s) (fun k => sumTo s l k (2 ^ s)) w' ∧ Below w.heap.size w w' := by
  have HN := Lib.hid (new_plan s hs)
  have HI := Lib.hid (into_plan s hs)
  have HL := Lib.hid hl
  have HZ := Lib.hid hZ
  have H64 := Lib.hid h64
  have HC := Lib.hid hC
  obtain ⟨n, hn⟩ : ∃ n : Nat, 2 ^ s = n := ⟨_, rfl⟩
  have hn1 : 0 < n := by rw [← hn]; exact Nat.pow_pos (by decide)
  have hn16 : n ≤ 16 := by rw [← hn]; exact Nat.pow_le_pow_right (by decide) (show s ≤ 4 by omega)
  have HPW := Lib.hid hn
  rw [hn] at HN HZ H64 HL ⊢
  clear hl hZ h64 hC hn
  go_enter Tryd.func58, Tryd.ntmps58
  go_wp2_with fail
  refine (HN.out _ HC.out).mono ?_
  rintro e w1 ⟨pb, ob, tv, rfl, hpb, hob, htv, hP, hB⟩
  have HP := Lib.hid hP
  have HB := Lib.hid hB
  have HTV := Lib.hid htv
  clear htv hP hB
  go_wp2_with (at_make; refine make_block _ rfl _ _ _ rfl BigT (.agg #[.int .i64 0, .int .u64 0, .int .i64 0, .int .u64 0]) 4 32 (by kernel_rfl) bigInfo n rfl rfl (by omega) (by omega) kB big_zero ?_)
  obtain rfl := HPW.out
  have hsz := HB.out.size
  refine (HI.out w1.heap.size zb pb ob (2 ^ s) zc tv l (fun _ => (0, 0)) _ (HP.out.keep (by (repeat' (first | (with_reducible exact Below.refl _ _) | (with_reducible assumption) | (with_reducible refine Below.alloc ?_ ?_ _) | (with_reducible refine below_grew ?_ ?_ _) | (with_reducible refine Below.setCell ?_ ?_ _) | (with_reducible refine Below.drew ?_) | (with_reducible refine below_drewN ?_ _) | omega | (simp; done) | (simp; omega))))) (bigW_new w1 _) ?_ ?_ ?_ ?_ ?_ ?_ H64.out (Nat.le_refl _) (by omega) HL.out).mono ?_
  · have := (block_facts HP.out.st).2.2; omega
  · have := (block_facts HP.out.ord).2.2; omega
  · exact fun e => by have := (HTV.out _ e.symm).2; omega
  · intro k hk
    have hb : Below w.heap.size w (w1.alloc (.cells (ag kB (2 ^ s * 4) fun _ => 0) BigT)) := by have := HB.out; (repeat' (first | (with_reducible exact Below.refl _ _) | (with_reducible assumption) | (with_reducible refine Below.alloc ?_ ?_ _) | (with_reducible refine below_grew ?_ ?_ _) | (with_reducible refine Below.setCell ?_ ?_ _) | (with_reducible refine Below.drew ?_) | (with_reducible refine below_drewN ?_ _) | omega | (simp; done) | (simp; omega)))
    obtain ⟨a, b⟩ := HZ.out k hk
    exact ⟨(cell_of_block (hb.block zb hzl) _).trans a, (cell_of_block (hb.block zb hzl) _).trans b⟩
  · simp; omega
  · omega
  rintro e w2 ⟨rfl, hu, hb⟩
  have HU := Lib.hid hu
  have HBW := Lib.hid hb
  clear hu hb
  go_wp2_with fail
  go_ret
  refine ⟨w1.heap.size, rfl, hsz, HBW.out, ?_⟩
  have hb : Below w.heap.size w (w1.alloc (.cells (ag kB (2 ^ s * 4) fun _ => 0) BigT)) := by have := HB.out; (repeat' (first | (with_reducible exact Below.refl _ _) | (with_reducible assumption) | (with_reducible refine Below.alloc ?_ ?_ _) | (with_reducible refine below_grew ?_ ?_ _) | (with_reducible refine Below.setCell ?_ ?_ _) | (with_reducible refine Below.drew ?_) | (with_reducible refine below_drewN ?_ _) | omega | (simp; done) | (simp; omega)))
  exact hb.trans ⟨HU.out.os, HU.out.tape, HU.out.output, HU.out.size, fun k hk => HU.out.block k (by have := hb.size; omega) (by omega)⟩
end Go.Proofs.YtcibajleknhklaaDoor
end

section
namespace Go.Proofs.YtcibajleknhklaaDoor
open Go.RowKit Go.BigFrame Go.Proofs.YtcibajleknhklaaDoorW.PrintWords Go.Proofs.YtcibajleknhklaaDoorW.PrintLast Go.Proofs.YtcibajleknhklaaDoorW.PrintMore
set_option linter.unusedSimpArgs false
set_option linter.unusedVariables false
set_option maxHeartbeats 2000000 in
set_option maxRecDepth 100000 in
theorem awake21 (w : World) (hT : CosW w) :
    Calls Tryd.prog 17 #[] w fun e w' => e = .returned (.bool true) ∧ Below w.heap.size w w' := by
  have ho : ∀ x w, In64 x → Calls Tryd.prog 59 #[.int .i64 x] w fun e w' => e = .returned (.agg #[.int .i64 (accHi x), .int .u64 (accLo x)]) ∧ Below w.heap.size w w' := fun x w h => of_any x h w
  have hr : ∀ w, Calls Tryd.prog 20 #[.int .i64 8] w fun e w' => ∃ g, e = .returned (.slice (some ⟨g, 0, none⟩) 8 8) ∧ w.heap.size ≤ g ∧ Bx g 3 kI 8 (fun j => (revF 3 j : Int)) w' ∧ Below w.heap.size w w' := fun w => order_any 3 (by decide) w
  have hf : ∀ zb w, CosW w → (∀ k, k < 2 → w.cell? ⟨zb, k * 2, none⟩ = some (.int .i64 (([(1, 0), (0, 1)] : List (Int × Int)).getD k (0, 0)).1) ∧ w.cell? ⟨zb, k * 2 + 1, none⟩ = some (.int .i64 (([(1, 0), (0, 1)] : List (Int × Int)).getD k (0, 0)).2)) → zb < w.heap.size →
    Calls Tryd.prog 58 #[.slice (some ⟨zb, 0, none⟩) 2 2] w fun e w' => ∃ g, e = .returned (.slice (some ⟨g, 0, none⟩) 2 2) ∧ w.heap.size ≤ g ∧ BigW g 2 (fun k => sumTo 1 [(1, 0), (0, 1)] k 2) w' ∧ Below w.heap.size w w' := fun zb w h1 h2 h3 => fast_any 1 (by decide) zb 2 [(1, 0), (0, 1)] w h1 h2 h3 (by unfold In64; decide) rfl
  have HO := Lib.hid ho
  have HR := Lib.hid hr
  have HF := Lib.hid hf
  have HT := Lib.hid hT
  have i1 : In64 4096 := by unfold In64; omega
  have i2 : In64 (-4096) := by unfold In64; omega
  clear ho hr hf hT
  go_enter Tryd.func17, Tryd.ntmps17
  go_wp2_with fail
  refine (HR.out _).mono ?_
  rintro e w1 ⟨ob, rfl, hob, hO, hb1⟩
  have hs1 := hb1.size
  have HOB := Lib.hid hO
  have HB1 := Lib.hid hb1
  clear hO hb1
  go_wp2_with fail
  refine (HF.out w1.heap.size _ (HT.out.below (by have := HB1.out; (repeat' (first | (with_reducible exact Below.refl _ _) | (with_reducible assumption) | (with_reducible refine Below.alloc ?_ ?_ _) | (with_reducible refine below_grew ?_ ?_ _) | (with_reducible refine Below.setCell ?_ ?_ _) | (with_reducible refine Below.drew ?_) | (with_reducible refine below_drewN ?_ _) | omega | (simp; done) | (simp; omega))))) ?_ (by simp)).mono ?_
  · intro k hk
    have : k = 0 ∨ k = 1 := by omega
    rcases this with rfl | rfl <;> simp [go_sem]
  rintro e w2 ⟨g, rfl, hg, hbg, hb2⟩
  have hB : Below w.heap.size w w2 := Below.trans (by have := HB1.out; (repeat' (first | (with_reducible exact Below.refl _ _) | (with_reducible assumption) | (with_reducible refine Below.alloc ?_ ?_ _) | (with_reducible refine below_grew ?_ ?_ _) | (with_reducible refine Below.setCell ?_ ?_ _) | (with_reducible refine Below.drew ?_) | (with_reducible refine below_drewN ?_ _) | omega | (simp; done) | (simp; omega)))) (hb2.mono (by have := HB1.out.size; simp; omega))
  have hO2 : Bx ob 3 kI 8 (fun j => (revF 3 j : Int)) w2 := (HOB.out.keep (by (repeat' (first | (with_reducible exact Below.refl _ _) | (with_reducible assumption) | (with_reducible refine Below.alloc ?_ ?_ _) | (with_reducible refine below_grew ?_ ?_ _) | (with_reducible refine Below.setCell ?_ ?_ _) | (with_reducible refine Below.drew ?_) | (with_reducible refine below_drewN ?_ _) | omega | (simp; done) | (simp; omega))))).keep (hb2)
  have c1 := ag_cell hO2 1 (by decide)
  have c6 := ag_cell hO2 6 (by decide)
  have hol := (block_facts hO2).2.2
  rw [show kI 1 = .i64 from rfl, show (revF 3 1 : Int) = 4 from by decide] at c1
  rw [show kI 6 = .i64 from rfl, show (revF 3 6 : Int) = 3 from by decide] at c6
  obtain ⟨x0, x1, x2, x3⟩ := bigW_cells hbg 1 (by decide)
  have e1 : (sumTo 1 [(1, 0), (0, 1)] 1 2) = (4096, -4096) := by decide
  have hgl := (block_facts hbg).2.2
  rw [e1] at x0 x1 x2 x3
  simp only [Nat.one_mul, Nat.reduceAdd] at x0 x1 x2 x3
  clear hbg hb2 e1 hO2
  go_wp2_with fail
  first | refine wp_region_grew2 29 (by kernel_rfl) (by kernel_rfl) ?_ | refine wp_region_grew 29 (by kernel_rfl) (by kernel_rfl) ?_
  simp only [List.take_succ_cons, List.take_zero, List.drop_succ_cons, List.drop_zero]
  repeat (go_big_quiet_step (first | (go_at_call 59; refine Calls.grew_of (HO.out _ _ ?_); assumption)))
  refine wpQuiet_nil ?_
  rintro _ ⟨x, rfl⟩
  go_wp2
  go_ret
  exact ⟨rfl, below_grew hB (hB.size) _⟩
end Go.Proofs.YtcibajleknhklaaDoor
end

section
namespace Go.Proofs.YtcibajleknhklaaDoor
open Go.RowKit Go.BigFrame Go.Proofs.YtcibajleknhklaaDoorW.PrintWords Go.Proofs.YtcibajleknhklaaDoorW.PrintLast Go.Proofs.YtcibajleknhklaaDoorW.PrintMore
set_option linter.unusedSimpArgs false
set_option linter.unusedVariables false
abbrev T16 := 50
theorem info16 : (Tryd.prog.info? T16).map (·.size) = some 32 := by kernel_rfl
theorem own_cells {w : World} {base : Nat} {e : TypeId} {size n : Nat} {v : Value} {xs : List Value} (h : w.ownsRow base e size v n xs) (hn : 0 < n) :
    ∃ g c, v = .slice (some ⟨g, 0, none⟩) n c ∧ g < w.heap.size ∧ base ≤ g ∧ ∀ j, j < n * size → w.cell? ⟨g, j, none⟩ = xs[j]? := by
  obtain ⟨h1, h2⟩ := h
  rcases h2 with ⟨_, h2⟩ | ⟨g, cap, cur, hv, hg, hh, hc1, hc2, hc3, hc4⟩
  · omega
  · refine ⟨g, cap, hv, (Array.getElem?_eq_some_iff.1 hh).1, hg, fun j hj => ?_⟩
    rw [cell_of_row w g j cur e _ hh, ← hc4, List.getElem?_take, if_pos hj]
    simp
theorem news_of {Z W : World} {xb n : Nat} {T : TypeId} {f : Nat → Int} (h : Bx xb T kI 32 f Z) (hn : n * 2 ≤ 32) (hw : W.heap[xb]? = Z.heap[xb]?) : ∀ j u, (ag kI (n * 2) f).toList[j]? = some u → W.cell? ((⟨xb, 0, none⟩ : Addr).add j) = some u := by
  intro j u hj
  have h2 : j < n * 2 := by have := (List.getElem?_eq_some_iff.1 hj).1; rw [Array.length_toList, ag_size] at this; exact this
  rw [Array.getElem?_toList, ag_get kI _ f j h2] at hj
  rw [Addr.add_lit, Nat.zero_add, cell_of_block hw, (block_facts h).1, ag_get kI 32 f j (by omega)]
  exact hj
theorem empty_own (Z : World) (e : TypeId) (size : Nat) : (Z.alloc (.cells #[] e)).ownsRow Z.heap.size e size (.slice (some ⟨Z.heap.size, 0, none⟩) 0 0) 0 [] :=
  ⟨by simp, .inr ⟨Z.heap.size, 0, #[], rfl, Nat.le_refl _, alloc_at _ _, Nat.le_refl _, Nat.zero_le _, by simp, by simp⟩⟩
def pairsOf (f : Nat → Int) (n : Nat) : List (Int × Int) := (List.range n).map fun i => (f (i * 2), f (i * 2 + 1))
theorem pairsOf_len (f : Nat → Int) (n : Nat) : (pairsOf f n).length = n := by simp [pairsOf]
theorem pairsOf_at (f : Nat → Int) (n j : Nat) (h : j < n) : (pairsOf f n).getD j (0, 0) = (f (j * 2), f (j * 2 + 1)) := by
  simp [pairsOf, List.getD_eq_getElem?_getD, h]
theorem bigs_at (f : Nat → Int × Int) : ∀ n j i, j < n → i < 4 → (((List.range n).map f).flatMap bigCells)[j * 4 + i]? = (bigCells (f j))[i]?
  | 0, j, i, h, _ => absurd h (by omega)
  | n + 1, j, i, h, hi => by
    have hl : ∀ m, (((List.range m).map f).flatMap bigCells).length = m * 4 := fun m => by
      induction m with
      | zero => rfl
      | succ m ih => rw [List.range_succ, List.map_append, List.flatMap_append, List.length_append, ih]; simp [bigCells]; omega
    rw [List.range_succ, List.map_append, List.flatMap_append]
    by_cases e : j < n
    · rw [List.getElem?_append_left (by rw [hl]; omega)]
      exact bigs_at f n j i e hi
    · obtain rfl : j = n := by omega
      rw [List.getElem?_append_right (by rw [hl]; omega), hl]
      simp [show j * 4 + i - j * 4 = i by omega]
/-- The direct sum of pairs that lie in a row. -/
theorem direct_pairs (t : Nat) (ht : t < 5) (n : Nat) (hn : 2 ^ t = n) (f : Nat → Int) (h64 : ∀ j, j < n * 2 → In64 (f j)) (zb zc : Nat) (w : World) (hT : CosW w) (hzl : zb < w.heap.size)
    (hz : ∀ j, j < n → w.cell? ⟨zb, j * 2, none⟩ = some (.int .i64 (f (j * 2))) ∧ w.cell? ⟨zb, j * 2 + 1, none⟩ = some (.int .i64 (f (j * 2 + 1)))) :
    Calls Tryd.prog 26 #[.slice (some ⟨zb, 0, none⟩) n zc] w fun e w' => ∃ db dc, e = .returned (.slice (some ⟨db, 0, none⟩) n dc) ∧ db < w'.heap.size ∧ (∀ j, j < n → ∀ i u, (bigCells (sumTo t (pairsOf f n) j n))[i]? = some u → w'.cell? ⟨db, j * 4 + i, none⟩ = some u) ∧ Below w.heap.size w w' := by
  have hl := pairsOf_len f n
  have hd := direct_yes t (by omega) (pairsOf f n) (by rw [hl, hn]) (fun j hj => by rw [pairsOf_at f n j (by omega)]; exact ⟨h64 _ (by omega), h64 _ (by omega)⟩) zb 0 zc w hT hzl (fun j hj => by
    rw [pairsOf_at f n j (by omega), Nat.zero_add]; exact hz j (by omega))
  rw [hl] at hd
  have hn0 : 0 < n := by rw [← hn]; exact Nat.pow_pos (by decide)
  refine hd.mono ?_
  rintro e w' ⟨v, rfl, ho, hb⟩
  obtain ⟨db, dc, rfl, h1, -, h3⟩ := own_cells ho hn0
  refine ⟨db, dc, rfl, h1, fun j hj i u hu => ?_, hb⟩
  have hi : i < 4 := (List.getElem?_eq_some_iff.1 hu).1
  rw [h3 (j * 4 + i) (by omega), ← hu]
  unfold directF
  rw [hl, bigs_at _ n j i hj hi]
set_option maxHeartbeats 4000000 in
set_option maxRecDepth 100000 in
theorem alike_any (s : Int) (hs : 0 ≤ s ∧ s ≤ 255) (len cap : Nat) (A : Option Addr) (F : Nat → Nat → Int) (w : World) (hT : CosW w) (hlen : len ≤ 9223372036854775807)
    (hA : 0 < len → ∃ b off, A = some ⟨b, off, none⟩ ∧ b < w.heap.size ∧ ∀ i, i < len → ∀ j, j < 32 → w.cell? ⟨b, off + i * 32 + j, none⟩ = some (.int .i64 (F i j)) ∧ In64 (F i j)) :
    Calls Tryd.prog 7 #[.int .u8 s, .slice A len cap] w fun e w' => e = .returned (.bool true) ∧ Below w.heap.size w w' := by
  have HAW := Lib.hid (awake21 w hT)
  obtain ⟨t, ht, ht5⟩ : ∃ t : Nat, s % 5 = (t : Int) ∧ t < 5 := ⟨(s % 5).toNat, by omega, by omega⟩
  have HT := Lib.hid ht
  obtain ⟨n, hn⟩ : ∃ n : Nat, 2 ^ t = n := ⟨_, rfl⟩
  have hn1 : 0 < n := by rw [← hn]; exact Nat.pow_pos (by decide)
  have hn16 : n ≤ 16 := by rw [← hn]; exact Nat.pow_le_pow_right (by decide) (show t ≤ 4 by omega)
  have hnw := fun w h => new_plan t ht5 w h
  have hip := into_plan t ht5
  rw [hn] at hnw hip
  have HN := Lib.hid hnw
  have HIP := Lib.hid hip
  have HC := Lib.hid hT
  have HAA := Lib.hid hA
  have hw : wrap64 ((2 : Int) ^ t) = (n : Int) := by
    rw [← hn, w64_id (by rw [show (2 : Int) ^ t = ((2 ^ t : Nat) : Int) from by simp]; omega) (by rw [show (2 : Int) ^ t = ((2 ^ t : Nat) : Int) from by simp]; omega)]
    simp
  have HNN := Lib.hid hn
  clear hnw hip hT ht hn hA
  go_enter Tryd.func7, Tryd.ntmps7
  go_wp2_with fail
  refine HAW.out.mono ?_
  rintro e w1 ⟨rfl, hb⟩
  have HB := Lib.hid hb
  clear hb
  by_cases h8 : 8 < len
  · have h8' : (8 : Int) < (len : Int) := by omega
    go_wp2_with fail
    go_ret
    exact ⟨rfl, HB.out⟩
  have h8' : ¬ (8 : Int) < (len : Int) := by omega
  go_wp2_with fail
  rw [HT.out, Int.toNat_natCast, hw]
  refine (HN.out _ (HC.out.below HB.out)).mono ?_
  rintro e w2 ⟨pb, ob, tv, rfl, hpb, hob, htv, hP, hb2⟩
  have hB2 := HB.out.trans (hb2.mono HB.out.size)
  have hs1 := HB.out.size
  have hpb' : w.heap.size ≤ pb := by omega
  have htv' : ∀ k, tv.ownBlock = some k → k < w2.heap.size := fun k hk => (htv k hk).2
  have hst := block_facts hP.st
  have hcP : w2.cell? ⟨pb, 0, none⟩ = some (.slice (some ⟨ob, 0, none⟩) n n) := by rw [hst.1, HNN.out]; rfl
  have HPN := Lib.hid (planN_any pb n n (some ⟨ob, 0, none⟩) (by omega) w2 hcP)
  have HP := Lib.hid hP
  have HB2 := Lib.hid hB2
  have HTV := Lib.hid htv'
  clear hb2 hP hB2 htv htv' hst hcP
  go_wp2_with fail
  refine HPN.out.mono ?_
  rintro e w3 ⟨rfl, hb3⟩
  have HB3 := Lib.hid (HB2.out.trans (hb3.mono HB2.out.size))
  have hs3 := hb3.size
  have HP3 := Lib.hid (HP.out.keep hb3)
  clear hb3
  have hnn : ((n : Int) != (n : Int)) = false := by simp
  go_wp2_with (at_make; refine make_block _ rfl _ _ _ rfl BigT (.agg #[.int .i64 0, .int .u64 0, .int .i64 0, .int .u64 0]) 4 32 (by kernel_rfl) bigInfo n rfl rfl (by omega) (by omega) kB big_zero ?_)
  obtain ⟨g, hg⟩ : ∃ g, w3.heap.size = g := ⟨_, rfl⟩
  have hpg : pb ≠ g := by have := (block_facts HP3.out.st).2.2; omega
  have hog : ob ≠ g := by have := (block_facts HP3.out.ord).2.2; omega
  have htg : some g ≠ tv.ownBlock := fun e => by have := HTV.out _ e.symm; omega
  have hgw : w.heap.size ≤ g := by have := HB3.out.size; omega
  have hbw : ∃ X, BigW g n X (w3.alloc (.cells (ag kB (n * 4) fun _ => 0) BigT)) := ⟨_, by rw [← hg]; exact bigW_new w3 n⟩
  have hpw : PlanR pb ob tv t (w3.alloc (.cells (ag kB (n * 4) fun _ => 0) BigT)) := HP3.out.keep (by (repeat' (first | (with_reducible exact Below.refl _ _) | (with_reducible assumption) | (with_reducible refine Below.alloc ?_ ?_ _) | (with_reducible refine below_grew ?_ ?_ _) | (with_reducible refine Below.setCell ?_ ?_ _) | (with_reducible refine Below.drew ?_) | (with_reducible refine below_drewN ?_ _) | omega | (simp; done) | (simp; omega))))
  have hbb : Below w.heap.size w (w3.alloc (.cells (ag kB (n * 4) fun _ => 0) BigT)) := by have := HB3.out; have := HB3.out.size; (repeat' (first | (with_reducible exact Below.refl _ _) | (with_reducible assumption) | (with_reducible refine Below.alloc ?_ ?_ _) | (with_reducible refine below_grew ?_ ?_ _) | (with_reducible refine Below.setCell ?_ ?_ _) | (with_reducible refine Below.drew ?_) | (with_reducible refine below_drewN ?_ _) | omega | (simp; done) | (simp; omega)))
  have HX := Lib.hid hbw
  have HPW := Lib.hid hpw
  have HBB := Lib.hid hbb
  generalize w3.alloc (.cells (ag kB (n * 4) fun _ => 0) BigT) = wa at *
  rw [hg]
  clear hbw hpw hbb HP3 HB3 HP HB2 HPN HB HAW hg
  go_loopw [43] (fun cnt wr => ∃ k : Nat, k ≤ len ∧ cnt = .int .i64 k ∧ (∃ X, BigW g n X wr) ∧ PlanR pb ob tv t wr ∧ Below w.heap.size w wr) (fun cnt _ => len - (intOf cnt).toNat)
  case atStart => exact ⟨0, by omega, rfl, HX.out, HPW.out, HBB.out⟩
  case round =>
    clear HX HPW HBB wa
    obtain ⟨k, hk, rfl, ⟨X, hX⟩, hP, hB⟩ := hrel
    have HX := Lib.hid hX
    have HP := Lib.hid hP
    have HB := Lib.hid hB
    clear hX hP hB
    by_cases hlt : k < len
    · have hlt' : (k : Int) < (len : Int) := by omega
      have hk0 : (0 : Int) ≤ k := by omega
      obtain ⟨b, off, rfl, hbl, hcc⟩ := HAA.out (by omega)
      have hrg : wr.rangeAt b (off + k * 32) (ag kI 32 (F k)).toList := fun j v hj => by
        have h32 : j < 32 := by have := (List.getElem?_eq_some_iff.1 hj).1; rw [Array.length_toList, ag_size] at this; exact this
        rw [(cell_of_block (HB.out.block b hbl) _), (hcc k hlt j h32).1, ← hj]
        have := ag_get kI 32 (F k) j h32
        rw [← Array.getElem?_toList] at this
        exact this.symm
      have hF64 : ∀ j, j < 32 → In64 (F k j) := fun j hj => (hcc k hlt j hj).2
      have HRG := Lib.hid hrg
      have HF64 := Lib.hid hF64
      have HIN := Lib.hid info16
      clear hrg hF64 hcc
      go_upto_region 13 with (first | (refine wpList_load_mid rfl T16 _ rfl b (off + k * 32) rfl _ _ HRG.out Tryd.underlying50 rfl ?hi ?_; (case hi => rw [Array.length_toList, ag_size]; exact HIN.out)) | (refine wpList_store_mid rfl T16 _ _ rfl wr.heap.size 0 (ag kI 32 (F k)) rfl rfl ?hth ?hin ?hon ?_; (case hth => exact there_row (alloc_at _ _) _ (by simp [ag_size]; done)); (case hin => rw [ag_size]; exact HIN.out); (case hon => exact ag_one kI 32 _)))
      have hB1 : Below wr.heap.size wr ((wr.alloc (.cells #[.int .i64 0, .int .i64 0, .int .i64 0, .int .i64 0, .int .i64 0, .int .i64 0, .int .i64 0, .int .i64 0, .int .i64 0, .int .i64 0, .int .i64 0, .int .i64 0, .int .i64 0, .int .i64 0, .int .i64 0, .int .i64 0, .int .i64 0, .int .i64 0, .int .i64 0, .int .i64 0, .int .i64 0, .int .i64 0, .int .i64 0, .int .i64 0, .int .i64 0, .int .i64 0, .int .i64 0, .int .i64 0, .int .i64 0, .int .i64 0, .int .i64 0, .int .i64 0] T16)).setCells wr.heap.size 0 (ag kI 32 (F k)).toList) :=
        below_cells (by (repeat' (first | (with_reducible exact Below.refl _ _) | (with_reducible assumption) | (with_reducible refine Below.alloc ?_ ?_ _) | (with_reducible refine below_grew ?_ ?_ _) | (with_reducible refine Below.setCell ?_ ?_ _) | (with_reducible refine Below.drew ?_) | (with_reducible refine below_drewN ?_ _) | omega | (simp; done) | (simp; omega)))) (Nat.le_refl _) _
      simp only [Act.put]
      refine cut_world (fun Z => Below wr.heap.size wr Z ∧ Bx wr.heap.size T16 kI 32 (F k) Z) ⟨hB1, cells_all (alloc_at _ _) rfl (ag_size _ _ _)⟩ ?_
      clear hB1
      rintro Z ⟨hBZ, hxZ⟩
      have HBZ := Lib.hid hBZ
      have HXZ := Lib.hid hxZ
      have hxl := (block_facts hxZ).2.2
      obtain ⟨xb, hxb⟩ : ∃ xb, wr.heap.size = xb := ⟨_, rfl⟩
      have HXB := Lib.hid hxb
      rw [hxb] at HXZ hxl ⊢
      clear hBZ hxZ hxb
      obtain ⟨i0, hi0, hz0, hz1, hz2⟩ := info_parts pairInfo
      have HI0 := Lib.hid hi0
      have HZ0 := Lib.hid hz0
      have HZ1 := Lib.hid hz1
      have HZ2 := Lib.hid hz2
      clear hi0 hz0 hz1 hz2
      have hn16' : (n : Int) ≤ 16 := by omega
      have hn0' : (0 : Int) ≤ n := by omega
      go_upto_region 14 with (at_builtin; refine wpList_append_own_at (w := Z.alloc (.cells #[] 49)) rfl _ _ 32 rfl Z.heap.size 49 i0 (.agg #[.int .i64 0, .int .i64 0]) 2 16 Tryd.underlying32 HI0.out HZ0.out HZ1.out HZ2.out rfl (by decide) (.slice (some ⟨Z.heap.size, 0, none⟩) 0 0) 0 [] rfl ?hown ⟨xb, 0, none⟩ n 16 (ag kI (n * 2) (F k)).toList rfl ?hl ?hnews ?h1 ?h63 ?hby ?hba ?_; (case hown => exact empty_own _ _ _); (case hl => rw [Array.length_toList, ag_size]); (case hnews => exact news_of HXZ.out (by omega) (alloc_old _ _ _ hxl)); (case h1 => exact fun u hu => Array.all_eq_true_iff_forall_mem.1 (ag_one kI _ _) u (by simpa using hu)); (case h63 => exact maxLen_le (by omega)); (case hby => omega); (case hba => simp); intro v' w2 hown2 hgr2 hni hat; clear hni hat)
      rw [List.nil_append, Nat.zero_add] at hown2
      obtain ⟨zb, zc, rfl, hzb, hzl⟩ := own_form hown2 hn1
      have hsZ := HBZ.out.size
      have hb2 : Below Z.heap.size Z w2 := ⟨hgr2.os, hgr2.tape, hgr2.output, Nat.le_trans (by simp) hgr2.size, fun i hi => (hgr2.block i (by simp; omega) (fun e => by simp [Value.ownBlock] at e; omega)).trans (alloc_old _ _ _ hi)⟩
      have hB2 : Below wr.heap.size wr w2 := HBZ.out.trans (hb2.mono hsZ)
      have hz2 : ∀ j, j < n → w2.cell? ⟨zb, j * 2, none⟩ = some (.int .i64 (F k (j * 2))) ∧ w2.cell? ⟨zb, j * 2 + 1, none⟩ = some (.int .i64 (F k (j * 2 + 1))) := fun j hj => by
        have e : ∀ i, i < n * 2 → w2.cell? ⟨zb, i, none⟩ = some (.int .i64 (F k i)) := fun i hi => by
          have := hown2.cells (g := zb) rfl i (.int .i64 (F k i)) (by rw [Array.getElem?_toList, ag_get kI _ _ i hi]; rfl)
          rw [Addr.add_lit, Nat.zero_add] at this
          exact this
        exact ⟨e _ (by omega), e _ (by omega)⟩
      have hx2 : Bx xb T16 kI 32 (F k) w2 := HXZ.out.keep hb2
      have hgl : g < wr.heap.size := (block_facts HX.out).2.2
      have hX2 := HX.out.keep hB2
      have hP2 := HP.out.keep hB2
      have hW2 := HB.out.trans (hB2.mono HB.out.size)
      have hzg : zb ≠ g := by omega
      have hxg : xb ≠ g := by have := HXB.out; omega
      have hcall := HIP.out g zb pb ob n zc tv (pairsOf (F k) n) X w2 hP2 hX2 hpg hog htg (fun j hj => by rw [pairsOf_at _ n j hj]; exact hz2 j hj) hzl hzg (fun j hj => by rw [pairsOf_at _ n j hj]; exact ⟨HF64.out _ (by omega), HF64.out _ (by omega)⟩) (Nat.le_refl _) (by omega) (pairsOf_len _ n)
      have HCALL := Lib.hid hcall
      have HX2 := Lib.hid hx2
      have HZC := Lib.hid hz2
      have HP2 := Lib.hid hP2
      have HW2 := Lib.hid hW2
      clear hcall hx2 hz2 hP2 hW2 hX2 hB2 hb2 hown2 hgr2 HBZ HXZ HX HP HRG HZ0 HZ1 HZ2 HI0
      go_wp2_with fail
      refine HCALL.out.mono ?_
      rintro e w3 ⟨rfl, hu, hb3⟩
      have hs3 := hu.size
      have hs2 := HW2.out.size
      have hW3 : Below w.heap.size w w3 := HW2.out.trans ⟨hu.os, hu.tape, hu.output, hu.size, fun i hi => hu.block i (by omega) (by omega)⟩
      have hz3 : ∀ j, j < n → w3.cell? ⟨zb, j * 2, none⟩ = some (.int .i64 (F k (j * 2))) ∧ w3.cell? ⟨zb, j * 2 + 1, none⟩ = some (.int .i64 (F k (j * 2 + 1))) := fun j hj =>
        ⟨(cell_of_block (hu.block zb hzl hzg) _).trans (HZC.out j hj).1, (cell_of_block (hu.block zb hzl hzg) _).trans (HZC.out j hj).2⟩
      have hx3 : Bx xb T16 kI 32 (F k) w3 := (hu.block xb (block_facts HX2.out).2.2 hxg).trans HX2.out
      have hP3 := HP2.out.upd hu hpg hog htg
      have hzl3 : zb < w3.heap.size := Nat.lt_of_lt_of_le hzl hu.size
      have hdir := direct_pairs t ht5 n HNN.out (F k) (fun j hj => HF64.out j (by omega)) zb zc w3 (HC.out.below hW3) hzl3 hz3
      have HDIR := Lib.hid hdir
      have HX3 := Lib.hid hx3
      have HZ3 := Lib.hid hz3
      have HB3 := Lib.hid hb3
      have HP3 := Lib.hid hP3
      have HW3 := Lib.hid hW3
      clear hu hb3 hW3 hz3 hx3 hP3 hdir HX2 HZC HB HW2 HP2 HCALL HIP HN HC
      go_wp2_with fail
      refine HDIR.out.mono ?_
      rintro e w4 ⟨db, dc, rfl, hdl, hd4, hb4⟩
      have HD4 := Lib.hid hd4
      have HX4 := Lib.hid (HX3.out.keep hb4)
      have HZ4 := Lib.hid (fun j (hj : j < n) => And.intro ((cell_of_block (hb4.block zb hzl3) _).trans (HZ3.out j hj).1) ((cell_of_block (hb4.block zb hzl3) _).trans (HZ3.out j hj).2))
      have HB4 := Lib.hid (HB3.out.keep hb4)
      have HP4 := Lib.hid (HP3.out.keep hb4)
      have HW4 := Lib.hid (HW3.out.trans (hb4.mono HW3.out.size))
      have hzl4 : zb < w4.heap.size := Nat.lt_of_lt_of_le hzl3 hb4.size
      clear hd4 hb4 HDIR HX3 HZ3 HB3 HP3 HW3
      go_wp2_with fail
      go_loopw [59] (fun cnt wx => ∃ j : Nat, j ≤ n ∧ cnt = .int .i64 j ∧ Below w4.heap.size w4 wx) (fun cnt _ => n - (intOf cnt).toNat)
      case atStart => exact ⟨0, by omega, rfl, Below.refl _ _⟩
      case round =>
        obtain ⟨j, hj, rfl, hbx⟩ := hrel
        have HBX := Lib.hid hbx
        clear hbx
        by_cases hjn : j < n
        · have hjn' : (j : Int) < n := by omega
          have hj0 : (0 : Int) ≤ j := by omega
          have hd := HD4.out j hjn
          obtain ⟨o0, o1, o2, o3⟩ := bigW_cells (HB4.out.keep HBX.out) j hjn
          obtain ⟨z0, z1⟩ := HZ4.out j hjn
          have zz0 := (cell_of_block (HBX.out.block zb hzl4) _).trans z0
          have zz1 := (cell_of_block (HBX.out.block zb hzl4) _).trans z1
          have hxx := HX4.out.keep HBX.out
          have x0 := ag_cell hxx (j * 2) (by omega)
          have x1 := ag_cell hxx (j * 2 + 1) (by omega)
          simp only [kI] at x0 x1
          obtain ⟨pa, pc, hp⟩ : ∃ a b, sumTo t (pairsOf (F k) n) j n = (a, b) := ⟨_, _, rfl⟩
          rw [hp] at hd o0 o1 o2 o3
          simp only at o0 o1 o2 o3
          have d0 := (cell_of_block (HBX.out.block db hdl) _).trans (hd 0 _ rfl)
          have d1 := (cell_of_block (HBX.out.block db hdl) _).trans (hd 1 _ rfl)
          have d2 := (cell_of_block (HBX.out.block db hdl) _).trans (hd 2 _ rfl)
          have d3 := (cell_of_block (HBX.out.block db hdl) _).trans (hd 3 _ rfl)
          simp only [Nat.add_zero] at d0 d1 d2 d3
          have hxbl := (block_facts hxx).2.2
          have hzbl : zb < wr.heap.size := Nat.lt_of_lt_of_le hzl4 HBX.out.size
          have hdbl : db < wr.heap.size := Nat.lt_of_lt_of_le hdl HBX.out.size
          have hgbl := (block_facts (HB4.out.keep HBX.out)).2.2
          clear hd z0 z1 hxx hp
          go_upto_region 19 with fail
          refine cut_world (fun Y => Below wr.heap.size wr Y ∧ Y.heap[wr.heap.size]? = some (.cells #[.int .i64 (accHi pa), .int .u64 (accLo pa), .int .i64 (accHi pc), .int .u64 (accLo pc)] BigT (0, 0))) ⟨by (repeat' (first | (with_reducible exact Below.refl _ _) | (with_reducible assumption) | (with_reducible refine Below.alloc ?_ ?_ _) | (with_reducible refine below_grew ?_ ?_ _) | (with_reducible refine Below.setCell ?_ ?_ _) | (with_reducible refine Below.drew ?_) | (with_reducible refine below_drewN ?_ _) | omega | (simp; done) | (simp; omega))), alloc_at _ _⟩ ?_
          rintro Y ⟨hbY, hcY⟩
          have HBY := Lib.hid hbY
          obtain ⟨k1, k2, k3⟩ := block_facts hcY
          have y0 := k1 0
          have y1 := k1 1
          have y2 := k1 2
          have y3 := k1 3
          simp only [List.getElem?_toArray, List.getElem?_cons_zero, List.getElem?_cons_succ] at y0 y1 y2 y3
          have c : ∀ b o, b < wr.heap.size → Y.cell? ⟨b, o, none⟩ = wr.cell? ⟨b, o, none⟩ := fun b o hb => cell_of_block (hbY.block b hb) o
          rw [← c _ _ hgbl] at o0 o1 o2 o3
          rw [← c _ _ hzbl] at zz0 zz1
          rw [← c _ _ hxbl] at x0 x1
          have hl1 : g < Y.heap.size := Nat.lt_of_lt_of_le hgbl hbY.size
          have hl2 : zb < Y.heap.size := Nat.lt_of_lt_of_le hzbl hbY.size
          have hl3 : xb < Y.heap.size := Nat.lt_of_lt_of_le hxbl hbY.size
          have hsx := HBX.out.size
          generalize wr.heap.size = bb at *
          clear c k1 k2 hbY hcY d0 d1 d2 d3
          have hBY : Below w4.heap.size w4 Y := HBX.out.trans (HBY.out.mono hsx)
          have HBY2 := Lib.hid hBY
          have hsy := hBY.size
          clear hBY
          first | refine wp_region_grew_all2 (by kernel_rfl) (by kernel_rfl) ?_ | refine wp_region_grew_all (by kernel_rfl) (by kernel_rfl) ?_
          repeat (go_big_quiet_step (fail))
          refine wpQuiet_nil ?_
          rintro _ ⟨x, rfl⟩
          go_wp2_with fail
          exact ⟨⟨j + 1, by omega, by go_num, below_grew HBY2.out hsy _⟩, by simp only [intOf]; omega⟩
        · have hjn' : ¬ (j : Int) < n := by omega
          go_wp2_with fail
          exact ⟨⟨k + 1, by omega, by go_num, ⟨_, HB4.out.keep HBX.out⟩, HP4.out.keep HBX.out, HW4.out.trans (HBX.out.mono HW4.out.size)⟩, by simp only [intOf]; omega⟩
    · have hlt' : ¬ (k : Int) < (len : Int) := by omega
      go_wp2_with fail
      go_ret
      exact ⟨rfl, HB.out⟩
end Go.Proofs.YtcibajleknhklaaDoor
end

section
namespace Go
open Go.RowKit
set_option linter.unusedSimpArgs false
section
variable {H : Type} {enc : TypeId × Value → H} {P : Program} {w : World} {base : Nat} {spare : Nat → Bool} {held : Bool}
theorem addr_add (b off x : Nat) : (⟨b, off, none⟩ : Addr).add x = ⟨b, off + x, none⟩ := by
  unfold Addr.add
  split
  · rename_i h; subst h; rfl
  · rfl
theorem cells?_at {a : Addr} {n : Nat} {cs : List Value} (h : w.cells? base a n = some cs) : base ≤ a.block ∧ cs.length = n ∧ ∀ i, i < n → w.cell? (a.add i) = cs[i]? := by
  unfold World.cells? at h
  split at h
  · rename_i hb
    have h1 := mapM_some_length h
    have h2 := mapM_some_get h
    rw [List.length_range] at h1
    exact ⟨hb, h1, fun i hi => h2 i i (by rw [List.getElem?_range hi])⟩
  · cases h
/-- A slice whose elements are flat: where it lies, and each element's cells. -/
theorem open_flat_slice {r : Reach} {b0 : Nat} {t e : TypeId} {v : Value} {dd : DataW H} {p : List MemPlace} (d : Nat) (ls : List Leaf) (ht : P.underlying t = some (.slice e)) (hl : layout P d e = some ls) (hpos : 0 < ls.length)
    (hv : Value.okWide P w r b0 t v) (h : DataW.Trod enc P w base spare held t v dd p) :
    ∃ A len cap, v = .slice A len cap ∧ len ≤ cap ∧ cap ≤ maxLen ∧ (0 < len → ∃ b off, A = some ⟨b, off, none⟩ ∧ base ≤ b ∧ b < w.heap.size ∧ ∀ i, i < len → ∃ cs : List Value, fitAllW ls cs = true ∧ ∀ j, j < ls.length → w.cell? ⟨b, off + i * ls.length + j, none⟩ = cs[j]?) := by
  obtain ⟨fuel, hf⟩ := h
  have hne : v.cells.toList = [v] := by
    cases v with
    | agg cs => simp [Value.okWide, ht, Cell.okWide, Cell.ok] at hv
    | _ => rfl
  rw [hne] at hf
  rcases DataW.trod_slice ht hf with ⟨hcs, _⟩ | ⟨a, len, cap, elems, rest, n, _, hcs, _, hb, hle, hm, hlen, hel, _, _⟩
  · obtain rfl : v = .slice none 0 0 := by simpa using hcs
    exact ⟨none, 0, 0, rfl, Nat.le_refl _, by unfold maxLen; omega, fun h => absurd h (by omega)⟩
  · obtain rfl : v = .slice (some a) len cap := by simpa using hcs
    refine ⟨some a, len, cap, rfl, hle, hm, fun hp => ?_⟩
    have hce := layout_cells hl
    have each : ∀ i, i < len → ∃ cs : List Value, fitAllW ls cs = true ∧ ∀ j, j < ls.length → w.cell? ((a.add (i * ls.length)).add j) = cs[j]? := fun i hi => by
      have h1 := hel i hi
      rw [List.getElem?_eq_getElem (by omega)] at h1
      obtain ⟨cs, h2, h3⟩ := Option.bind_eq_some_iff.1 h1
      rw [hce] at h2
      obtain ⟨_, h4, h5⟩ := cells?_at h2
      exact ⟨cs, flat_of_trod d n e ls cs _ hl h3, h5⟩
    -- the address is a cell's
    have hs : a.spot = none ∧ a.block < w.heap.size := by
      obtain ⟨cs, h1, h2⟩ := each 0 hp
      have h3 := h2 0 hpos
      have h4 := fitAllW_length h1
      rw [List.getElem?_eq_getElem (by omega)] at h3
      have e : (a.add (0 * ls.length)).add 0 = a := by simp [Addr.add]
      rw [e] at h3
      refine ⟨?_, World.block_lt_of_cell? w a h3⟩
      unfold World.cell? at h3
      split at h3
      · split at h3
        · cases h3
        · rename_i hh
          cases hsp : a.spot with
          | none => rfl
          | some x => rw [hsp] at hh; simp at hh
      · cases h3
    obtain ⟨b, off, sp⟩ := a
    obtain ⟨hs1, hs2⟩ := hs
    simp only at hs1 hs2
    subst hs1
    refine ⟨b, off, rfl, hb, hs2, fun i hi => ?_⟩
    obtain ⟨cs, h1, h2⟩ := each i hi
    refine ⟨cs, h1, fun j hj => ?_⟩
    have e : ((⟨b, off, none⟩ : Addr).add (i * ls.length)).add j = ⟨b, off + i * ls.length + j, none⟩ := by
      rw [addr_add, addr_add]
    rw [← e]
    exact h2 j hj
end
/-- The whole number behind an address. -/
def intCell (w : World) (A : Option Addr) (k : Nat) : Int := match A with | some a => intOf ((w.cell? ⟨a.block, a.off + k, none⟩).getD (.bool false)) | none => 0
/-- What 'open_flat_slice' tells, cell by cell, as whole numbers. -/
theorem int_cells {w : World} {A : Option Addr} {len base : Nat} {ls : List Leaf} (h : 0 < len → ∃ b off, A = some ⟨b, off, none⟩ ∧ base ≤ b ∧ b < w.heap.size ∧ ∀ i, i < len → ∃ cs : List Value, fitAllW ls cs = true ∧ ∀ j, j < ls.length → w.cell? ⟨b, off + i * ls.length + j, none⟩ = cs[j]?) :
    0 < len → ∃ b off, A = some ⟨b, off, none⟩ ∧ b < w.heap.size ∧ ∀ i, i < len → ∀ (j : Nat) (k : IntKind), ls[j]? = some (.int k) → w.cell? ⟨b, off + i * ls.length + j, none⟩ = some (.int k (intCell w A (i * ls.length + j))) ∧ (Lit.int k (intCell w A (i * ls.length + j))).wf = true := by
  intro hp
  obtain ⟨b, off, rfl, _, hb, hc⟩ := h hp
  refine ⟨b, off, rfl, hb, fun i hi j k hj => ?_⟩
  obtain ⟨cs, h1, h2⟩ := hc i hi
  obtain ⟨n, h3, h4⟩ := fitAllW_at j k h1 hj
  have h5 := h2 j (List.getElem?_eq_some_iff.1 hj).1
  rw [h3] at h5
  have h6 : intCell w (some ⟨b, off, none⟩) (i * ls.length + j) = n := by
    unfold intCell
    simp only
    rw [← Nat.add_assoc, h5]
    rfl
  rw [h6]
  exact ⟨h5, h4⟩
end Go
end

section
namespace Go
open Go.RowKit Go.ChangeShapes Go.WideShapes
/-- All arguments read again. -/
theorem trodAll_below {H : Type} {enc : TypeId × Value → H} {P : Program} (hl : laidOutB P = true) {W W' : World} (hb : Below W.heap.size W W') :
    ∀ (ts : List TypeId) (vs : List Value) (ds : List (DataW H)) (ps : List MemPlace), (ts.all fun t => P.readableRec t && decide (t < P.types.size)) = true →
      DataW.TrodAll enc P W 0 (fun _ => true) true ts vs ds ps → (∀ x ∈ ps, x.block < W.heap.size) → DataW.TrodAll enc P W' 0 (fun b => decide (b < W.heap.size)) true ts vs ds ps
  | [], vs, ds, ps, _, h, _ => by
    obtain ⟨rfl, rfl, rfl⟩ := trodAll_nil h
    exact trodAll_mk0
  | t :: ts, vs, ds, ps, hr, h, hlt => by
    simp only [List.all_cons, Bool.and_eq_true, decide_eq_true_eq] at hr
    obtain ⟨v, vs', d, ds', p, q, rfl, rfl, rfl, h1, h2⟩ := trodAll_cons h
    exact trodAll_cons_mk (Below.trod hl hr.1.1 hr.1.2 h1 hb (fun x hx => hlt x (List.mem_append_left _ hx))) (trodAll_below hl hb ts vs' ds' q hr.2 h2 (fun x hx => hlt x (List.mem_append_right _ hx)))
end Go
end

section
namespace Go.Proofs.YtcibajleknhklaaDoor
open Go.RowKit
theorem cosines_of {W : World} {rest : List (String × DataW Unit)} (h : laidMet Tryd.prog (("spinet/cis.cosines", Rows.laid_spinet_cis_cosines) :: rest) W) : CosW W := by
  have hT := Lib.tabIs_of_head (P := Tryd.prog) (g := 0) (t := 207) (e := 2) (n := 65) (k := .i64) (zs := cosL) (by kernel_rfl) (by kernel_rfl) Tryd.underlying207 Tryd.underlying2 (by kernel_rfl) (by kernel_rfl) h
  have hc := fun i hi => hT.cell (g := 0) (by kernel_rfl) i hi
  exact ⟨World.block_lt_of_cell? W ⟨0, 0, none⟩ (hc 0 (by decide)), hc⟩
end Go.Proofs.YtcibajleknhklaaDoor
end

section
namespace Go.Proofs.YtcibajleknhklaaDoor
open Go.ChangeShapes Go.WideShapes Go.ChangeAt Go.WideMaps Go.WideElems Go.RowKit
set_option maxRecDepth 100000 in
theorem fftAlike_lifted (os : Os) (started : os.Started) (H : Type) (enc : TypeId × Value → H) :
    ReturnsInHanded {} Tryd.checked os 7 .any (fun w args => (Rows.fftAlikeSpec.pre enc Tryd.prog Tryd.f7 [] false w args ∧ laidMetH Tryd.prog Rows.fftAlikeRow.laid w) ∧ sizedMet enc Tryd.prog Tryd.f7 (OpenSpec.ofChange Rows.fftAlikeSpec) false w args)
      (Rows.fftAlikeSpec.post enc Tryd.prog Tryd.f7 false true false false) := by
  refine returnsInHanded_of_change_and (C := Tryd.checked) (X := fun w _ => laidMetH Tryd.prog Rows.fftAlikeRow.laid w) (fun _ _ _ hh h => h.of_heap hh) (by kernel_rfl) started (by kernel_rfl) Tryd.func7
    (ChangeSpec.witness_shaped (enc := enc) (C := Tryd.checked) (os := os) (X := fun w _ => laidMetH Tryd.prog Rows.fftAlikeRow.laid w) false (World.doorLaid Tryd.prog 400 os) #[.int .u8 0, .slice none 0 0] 8 rfl (World.shaped_of_RefB (by kernel_rfl) (by kernel_rfl)) (by kernel_rfl) (by kernel_rfl) (by kernel_rfl)
      (laidMetH_of_parts3 (fuel := 8) (laidMet_of_run' 8 (by kernel_rfl) (by kernel_rfl)) (by kernel_rfl) (by kernel_rfl))) ?_
  intro W base args ds gs before hval0 hW _ _ hL _
  have hval : ∀ (j : Nat) t v, Tryd.f7.params[j]? = some t → args[j]? = some v → Value.okWide Tryd.prog W .any base t v := hval0
  have hW' := hW
  obtain ⟨p, q, hA0, hV, rfl, hfz, hnd⟩ := hW
  have hA : DataW.TrodAll enc Tryd.prog W 0 (fun _ => true) true Tryd.f7.params.toList args.toList ds p := hA0
  have hA2 := hA
  rw [Tryd.params7] at hA hval
  obtain ⟨v0, v1, d0, d1, p0, p1, rfl, rfl, hp, h0, h1⟩ := trodAll_two hA
  obtain ⟨rfl, rfl⟩ := trodVars_none hV
  obtain ⟨s, rfl, rfl, hp0, ws⟩ := open_int Tryd.underlying5 (hval 0 5 v0 rfl rfl) h0
  obtain ⟨A, len, cap, rfl, hle, hm, hcs⟩ := open_flat_slice 4 (List.replicate 32 (Leaf.int .i64)) Tryd.underlying47 (by kernel_rfl) (by decide) (hval 1 47 v1 rfl rfl) h1
  have hic := int_cells hcs
  rw [MakeChecks.laidMetH_plain _ _ _ (by kernel_rfl)] at hL
  have hT : CosW W := cosines_of hL
  simp only [List.append_nil] at hW'
  refine (alike_any s (wf_u8 ws) len cap A (fun i j => intCell W A (i * 32 + j)) W hT (by unfold maxLen at hm; omega) (fun hp => by
    obtain ⟨b, off, hA, hb, hc⟩ := hic hp
    exact ⟨b, off, hA, hb, fun i hi j hj => by
      obtain ⟨h5, h6⟩ := hc i hi j .i64 (by rw [List.getElem?_replicate, if_pos hj])
      exact ⟨h5, wf_i64 h6⟩⟩)).mono fun e W' ⟨he, hb⟩ => ?_
  subst he
  have e1 : Rows.fftAlikeSpec.fn H ([.lit (.int .u8 s), d1] ++ []) = { results := [.lit (.bool true)], args := [.lit (.int .u8 s), d1] } := by simp [Rows.fftAlikeSpec]
  refine ⟨_, rfl, _, _, _, [], p, [], hW', ?_, ?_, ?_, hb.frame _, fun h => by cases h⟩
  · rw [e1]; exact trodAll_mk1 (shut_bool Tryd.underlying4 _)
  · rw [e1]; exact trodAll_below (by kernel_rfl) hb _ _ _ _ (by kernel_rfl) hA2 (fun x hx => by simpa using hW'.lt x (by simpa using hx))
  · rw [e1]; rfl
theorem fftAlike_holds : Rows.FftAlikeSaid :=
  OpenClaim.holds_of_wide 7 Tryd.f7 rfl rfl rfl rfl rfl rfl rfl ⟨rfl, rfl, rfl, rfl, rfl⟩ rfl rfl rfl rfl rfl (by kernel_rfl) Tryd.func7 (by kernel_rfl)
    (of_decide_eq_true (by kernel_rfl)) (by unfold Func.isWrapper; rw [if_neg (of_decide_eq_false (by kernel_rfl))]; exact ⟨rfl, rfl⟩)
    (fun os started H enc _ => fftAlike_lifted os started H enc)
theorem fftAlike_card : Rows.FftAlikeCardSaid :=
  Claim7.holds_tied_plain_at .later [] [.data] true (true, "ae348317897b4f8711de699b2180ffb779772e4703cfa942f657876935132cc0") false
    fftAlike_holds (fun _ h => by cases h) (by kernel_rfl) (fun _ h => by cases h) fftAlike_row_tie rfl ⟨rfl, rfl⟩ (by kernel_rfl) rfl
    (fun f fn hf hfn => by
      obtain rfl : f = 7 := Option.some.inj ((show Tryd.prog.funcNamed "spinet/spinetlaw21.FftAlike" = some 7 by kernel_rfl).symm.trans hf) |>.symm
      obtain rfl : fn = Tryd.f7 := (Option.some.inj (Tryd.func7.symm.trans hfn)).symm
      exact ⟨by kernel_rfl, fun j t ht => by
        rw [Tryd.params7] at ht
        have hm : t ∈ [5, 47] := by simpa using Array.mem_of_getElem? ht
        have hall : ([5, 47].all fun u => !Tryd.prog.wantsStandIn u) = true := by kernel_rfl
        exact (show Tryd.prog.wantsStandIn t = false by simpa using List.all_eq_true.1 hall t (by simpa using hm))⟩)
    (by kernel_rfl)
end Go.Proofs.YtcibajleknhklaaDoor
end

