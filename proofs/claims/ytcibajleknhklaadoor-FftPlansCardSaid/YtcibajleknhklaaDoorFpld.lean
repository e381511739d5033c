/-
  FftPlans: There is a plan of just so many pairs; it writes nothing, unless both lists are as long.
  (One text out of these parts: FftN, FftF, FftA, FftQ, Law, LaidC, FftPlansRow.)
-/
import Derived.Test.YtcibajleknhklaaDoorFplc
import Derived.ProofKit
import Derived.LaidMore
import Derived.OpenShut
import Derived.Stop.Joined
import Derived.Lib.LaidTab
import Derived.Test.YtcibajleknhklaaDoorRows
import Derived.Test.YtcibajleknhklaaDoorCards
import Derived.Test.YtcibajleknhklaaDoorTie
import Derived.SevenTiedAt
section
namespace Go.Proofs.YtcibajleknhklaaDoor
open Go.RowKit Go.BigFrame Go.Proofs.YtcibajleknhklaaDoorW.PrintWords Go.Proofs.YtcibajleknhklaaDoorW.PrintLast Go.Proofs.YtcibajleknhklaaDoorW.PrintMore
open PFftOrders RFftOrders
set_option linter.unusedSimpArgs false
set_option linter.unusedVariables false
def pairCells (p : Int × Int) : List Value := [.int .i64 p.1, .int .i64 p.2]
def turnsTo (n k : Nat) : List Value := ((List.range k).map fun i : Nat => turnF ((i : Int) * 256 / (n : Int))).flatMap pairCells
theorem own_only {w w' : World} {base p : Nat} {e : TypeId} {size n : Nat} {v : Value} {xs : List Value} (h : w.ownsRow base e size v n xs) (ho : Only p w w') (hp : p < base) : w'.ownsRow base e size v n xs := by
  obtain ⟨h1, h2 | ⟨g, cap, cur, h2, h3, h4, h5⟩⟩ := h
  · exact ⟨h1, .inl h2⟩
  · exact ⟨h1, .inr ⟨g, cap, cur, h2, h3, (ho.block g (by omega)).trans h4, h5⟩⟩
theorem own_mono {w : World} {base base' : Nat} {e : TypeId} {size : Nat} {v : Value} {n : Nat} {xs : List Value} (h : w.ownsRow base e size v n xs) (hb : base' ≤ base) : w.ownsRow base' e size v n xs :=
  ⟨h.1, h.2.imp id fun ⟨g, cap, cur, h1, h2, h3⟩ => ⟨g, cap, cur, h1, Nat.le_trans hb h2, h3⟩⟩
theorem turnsTo_succ (n k : Nat) : turnsTo n (k + 1) = turnsTo n k ++ [.int .i64 (turnF ((k : Int) * 256 / (n : Int))).1, .int .i64 (turnF ((k : Int) * 256 / (n : Int))).2] := by
  simp [turnsTo, List.range_succ, pairCells]
theorem pairInfo : (Tryd.prog.info? 49).map (fun i => (i.zero, i.size, i.bytes)) = some (some (.agg #[.int .i64 0, .int .i64 0]), 2, 16) := by kernel_rfl
set_option maxHeartbeats 2000000 in
set_option maxRecDepth 100000 in
theorem new_any (s : Nat) (hs : s < 5) (w : World) (hC : CosW w) :
    Calls Tryd.prog 18 #[.int .i64 ((2 ^ s : Nat) : Int)] w fun e w' => ∃ pb ob tv, e = .returned (.tuple #[.pointer (some ⟨pb, 0, none⟩), .int .i64 0]) ∧ w.heap.size ≤ pb ∧ w.heap.size ≤ ob ∧ pb ≠ ob ∧
      w'.heap[pb]? = some (.cells #[.slice (some ⟨ob, 0, none⟩) (2 ^ s) (2 ^ s), tv] 130 (0, 0)) ∧ Bx ob 3 kI (2 ^ s) (fun j => (revF s j : Int)) w' ∧
      w'.ownsRow w.heap.size 49 2 tv (2 ^ s / 2) (turnsTo (2 ^ s) (2 ^ s / 2)) ∧ Below w.heap.size w w' := by
  have HT := Lib.hid (fun w => fft_there.calls _ _ w (there_pow ⟨s, hs⟩))
  have HO := Lib.hid (fun w => order_any s hs w)
  have HC := Lib.hid hC
  obtain ⟨n, hn⟩ : ∃ n : Nat, 2 ^ s = n := ⟨_, rfl⟩
  have hn1 : 0 < n := by rw [← hn]; exact Nat.pow_pos (by decide)
  have hn16 : n ≤ 16 := by rw [← hn]; exact Nat.pow_le_pow_right (by decide) (show s ≤ 4 by omega)
  simp only at HT
  rw [hn] at HT HO ⊢
  have HN := Lib.hid hn
  obtain ⟨m, hm⟩ : ∃ m : Nat, n / 2 = m := ⟨_, rfl⟩
  have hdiv : (n : Int) / 2 = (m : Int) := by omega
  have hmn : m ≤ n := by omega
  rw [hm]
  have HM := Lib.hid hm
  have HDIV := Lib.hid hdiv
  clear hn hC hm hdiv
  have T1 := turn_any
  unfold pairAgg at T1
  have HTU := Lib.hid T1
  clear T1
  go_enter Tryd.func18, Tryd.ntmps18
  go_wp2_with fail
  refine (HT.out _).mono ?_
  rintro e w1 ⟨rfl, hd⟩
  have hw1 : Below w.heap.size w w1 := Below.trans (by (repeat' (first | (with_reducible exact Below.refl _ _) | (with_reducible assumption) | (with_reducible refine Below.alloc ?_ ?_ _) | (with_reducible refine below_grew ?_ ?_ _) | (with_reducible refine Below.setCell ?_ ?_ _) | (with_reducible refine Below.drew ?_) | (with_reducible refine below_drewN ?_ _) | omega | (simp; done) | (simp; omega)))) (hd.below.mono (by simp))
  have HW1 := Lib.hid hw1
  clear hd hw1
  go_wp2_with fail
  refine (HO.out _).mono ?_
  rintro e w2 ⟨ob, rfl, hob, hbo, hb2⟩
  have hw2 : Below w.heap.size w w2 := HW1.out.trans (hb2.mono HW1.out.size)
  have hob' : w.heap.size ≤ ob := Nat.le_trans HW1.out.size hob
  have HBO := Lib.hid hbo
  have HW2 := Lib.hid hw2
  clear hbo hw2 hb2 hob
  go_wp2_with fail
  rw [HDIV.out]
  obtain ⟨pb, hpb⟩ : ∃ pb, w2.heap.size = pb := ⟨_, rfl⟩
  have hop : ob < pb := by have := (block_facts HBO.out).2.2; omega
  have hpo : pb ≠ ob := by have := (block_facts HBO.out).2.2; omega
  have hpw : w.heap.size ≤ pb := by have := HW2.out.size; omega
  rw [hpb]
  go_loopw [15] (fun cnt wr => ∃ k : Nat, k ≤ m ∧ cnt = .int .i64 k ∧ ∃ tv, wr.heap[pb]? = some (.cells #[.slice (some ⟨ob, 0, none⟩) n n, tv] 130 (0, 0)) ∧ Bx ob 3 kI n (fun j => (revF s j : Int)) wr ∧
      wr.ownsRow (pb + 1) 49 2 tv k (turnsTo n k) ∧ Below w.heap.size w wr) (fun cnt _ => m - (intOf cnt).toNat)
  case atStart =>
    refine ⟨0, by omega, rfl, .slice none 0 0, by rw [← hpb]; exact alloc_at _ _, HBO.out.keep (by (repeat' (first | (with_reducible exact Below.refl _ _) | (with_reducible assumption) | (with_reducible refine Below.alloc ?_ ?_ _) | (with_reducible refine below_grew ?_ ?_ _) | (with_reducible refine Below.setCell ?_ ?_ _) | (with_reducible refine Below.drew ?_) | (with_reducible refine below_drewN ?_ _) | omega | (simp; done) | (simp; omega)))), World.ownsRow_nil _ _ _ _, by have := HW2.out; (repeat' (first | (with_reducible exact Below.refl _ _) | (with_reducible assumption) | (with_reducible refine Below.alloc ?_ ?_ _) | (with_reducible refine below_grew ?_ ?_ _) | (with_reducible refine Below.setCell ?_ ?_ _) | (with_reducible refine Below.drew ?_) | (with_reducible refine below_drewN ?_ _) | omega | (simp; done) | (simp; omega)))⟩
  case round =>
    obtain ⟨k, hk, rfl, tv, hc, hb, hR, hB⟩ := hrel
    have HB := Lib.hid hB
    have HBX := Lib.hid hb
    have HR := Lib.hid hR
    have HCC := Lib.hid hc
    have hcell := (block_facts hc).1 1
    have hfz := (block_facts hc).2.1 1
    have hpl := (block_facts hc).2.2
    clear hB hb hR hc
    by_cases hlt : k < m
    · have hlt' : (k : Int) < (m : Int) := by omega
      have hmm : ((k : Int) * 256 + 9223372036854775808) % 18446744073709551616 - 9223372036854775808 = (k : Int) * 256 := by omega
      have hmw : IntKind.i64.wrap ((k : Int) * 256) = ((k * 256 : Nat) : Int) := by rw [wr_small (by omega) (by omega)]; omega
      have hn0 : ((n : Int) == 0) = false := beq_eq_false_iff_ne.mpr (by omega)
      have hTV : CosW wr := HC.out.below HB.out
      have HTV := Lib.hid hTV
      clear hTV
      go_wp2_with fail
      have hbs : pb + 1 ≤ wr.heap.size := by omega
      have hpw1 : w.heap.size ≤ pb + 1 := by omega
      have hop1 : pb < pb + 1 := by omega
      refine wp_region_inv [] (fun W => AT (pb + 1) 49 2 tv.ownBlock (turnsTo n) (k + 1) wr W) (fun W W' => AT (pb + 1) 49 2 tv.ownBlock (turnsTo n) (k + 1) W W') 12 (by kernel_rfl) (by kernel_rfl) (by kernel_rfl) (AT.of_below ((Below.refl _ _).drew) hbs) (fun W W' h h' => h.trans h') (fun _ _ h => h.grow.size) ?_
      simp only [List.take_succ_cons, List.take_zero, List.drop_succ_cons, List.drop_zero]
      refine wpInv_det (by kernel_rfl) (by kernel_rfl) ?_
      apply Exists.intro
      refine ⟨?_, ?_, ?_⟩
      · intro U W hC hH
        have hws := Nat.le_trans hbs hC.grow.size
        simp only [HypsU, predsOf, Region.binds, List.filterMap_cons, List.filterMap_nil, if_true, List.nil_append, List.cons_append, List.getD_cons_zero, List.getD_cons_succ] at hH
        simp only [fillPuts, Act.put, List.setIfInBounds_toArray, List.set_cons_zero, List.set_cons_succ, Nat.reduceAdd]
        go_wp2_with fail
        refine ⟨rfl, rfl, AT.of_below (by (repeat' (first | (with_reducible exact Below.refl _ _) | (with_reducible assumption) | (with_reducible refine Below.alloc ?_ ?_ _) | (with_reducible refine below_grew ?_ ?_ _) | (with_reducible refine Below.setCell ?_ ?_ _) | (with_reducible refine Below.drew ?_) | (with_reducible refine below_drewN ?_ _) | omega | (simp; done) | (simp; omega)))) hws, ?_⟩
        conv => lhs; whnf
        try rfl
      · exact fun _ => rfl
      simp only [List.nil_append, List.cons_append, Nat.reduceAdd]
      refine wpInv_det (by kernel_rfl) (by kernel_rfl) ?_
      apply Exists.intro
      refine ⟨?_, ?_, ?_⟩
      · intro U W hC hH
        have hws := Nat.le_trans hbs hC.grow.size
        simp only [HypsU, predsOf, Region.binds, List.filterMap_cons, List.filterMap_nil, if_true, List.nil_append, List.cons_append, List.getD_cons_zero, List.getD_cons_succ] at hH
        simp only [fillPuts, Act.put, List.setIfInBounds_toArray, List.set_cons_zero, List.set_cons_succ, Nat.reduceAdd]
        go_wp2_with fail
        refine ⟨rfl, rfl, AT.of_below (by (repeat' (first | (with_reducible exact Below.refl _ _) | (with_reducible assumption) | (with_reducible refine Below.alloc ?_ ?_ _) | (with_reducible refine below_grew ?_ ?_ _) | (with_reducible refine Below.setCell ?_ ?_ _) | (with_reducible refine Below.drew ?_) | (with_reducible refine below_drewN ?_ _) | omega | (simp; done) | (simp; omega)))) hws, ?_⟩
        conv => lhs; whnf
        try rfl
      · exact fun _ => rfl
      simp only [List.nil_append, List.cons_append, Nat.reduceAdd]
      refine wpInv_det (by kernel_rfl) (by kernel_rfl) ?_
      apply Exists.intro
      refine ⟨?_, ?_, ?_⟩
      · intro U W hC hH
        have hws := Nat.le_trans hbs hC.grow.size
        simp only [HypsU, predsOf, Region.binds, List.filterMap_cons, List.filterMap_nil, if_true, List.nil_append, List.cons_append, List.getD_cons_zero, List.getD_cons_succ] at hH
        simp only [fillPuts, Act.put, List.setIfInBounds_toArray, List.set_cons_zero, List.set_cons_succ, Nat.reduceAdd]
        go_wp2_with fail
        refine ⟨rfl, rfl, AT.of_below (by (repeat' (first | (with_reducible exact Below.refl _ _) | (with_reducible assumption) | (with_reducible refine Below.alloc ?_ ?_ _) | (with_reducible refine below_grew ?_ ?_ _) | (with_reducible refine Below.setCell ?_ ?_ _) | (with_reducible refine Below.drew ?_) | (with_reducible refine below_drewN ?_ _) | omega | (simp; done) | (simp; omega)))) hws, ?_⟩
        conv => lhs; whnf
        try rfl
      · exact fun _ => rfl
      simp only [List.nil_append, List.cons_append, Nat.reduceAdd]
      refine wpInv_det (by kernel_rfl) (by kernel_rfl) ?_
      apply Exists.intro
      refine ⟨?_, ?_, ?_⟩
      · intro U W hC hH
        have hws := Nat.le_trans hbs hC.grow.size
        simp only [HypsU, predsOf, Region.binds, List.filterMap_cons, List.filterMap_nil, if_true, List.nil_append, List.cons_append, List.getD_cons_zero, List.getD_cons_succ] at hH
        simp only [fillPuts, Act.put, List.setIfInBounds_toArray, List.set_cons_zero, List.set_cons_succ, Nat.reduceAdd]
        go_wp2_with fail
        refine ⟨rfl, rfl, AT.of_below (by (repeat' (first | (with_reducible exact Below.refl _ _) | (with_reducible assumption) | (with_reducible refine Below.alloc ?_ ?_ _) | (with_reducible refine below_grew ?_ ?_ _) | (with_reducible refine Below.setCell ?_ ?_ _) | (with_reducible refine Below.drew ?_) | (with_reducible refine below_drewN ?_ _) | omega | (simp; done) | (simp; omega)))) hws, ?_⟩
        conv => lhs; whnf
        try rfl
      · exact fun _ => rfl
      simp only [List.nil_append, List.cons_append, Nat.reduceAdd]
      refine wpInv_det (by kernel_rfl) (by kernel_rfl) ?_
      apply Exists.intro
      refine ⟨?_, ?_, ?_⟩
      · intro U W hC hH
        have hws := Nat.le_trans hbs hC.grow.size
        simp only [HypsU, predsOf, Region.binds, List.filterMap_cons, List.filterMap_nil, if_true, List.nil_append, List.cons_append, List.getD_cons_zero, List.getD_cons_succ] at hH
        simp only [fillPuts, Act.put, List.setIfInBounds_toArray, List.set_cons_zero, List.set_cons_succ, Nat.reduceAdd]
        have hcl := (hC.below.cell (p := ⟨pb, 1, none⟩) hop1).trans hcell; go_wp2_with fail
        refine ⟨rfl, rfl, AT.of_below (by (repeat' (first | (with_reducible exact Below.refl _ _) | (with_reducible assumption) | (with_reducible refine Below.alloc ?_ ?_ _) | (with_reducible refine below_grew ?_ ?_ _) | (with_reducible refine Below.setCell ?_ ?_ _) | (with_reducible refine Below.drew ?_) | (with_reducible refine below_drewN ?_ _) | omega | (simp; done) | (simp; omega)))) hws, ?_⟩
        conv => lhs; whnf
        try rfl
      · exact fun _ => rfl
      simp only [List.nil_append, List.cons_append, Nat.reduceAdd]
      refine wpInv_det (by kernel_rfl) (by kernel_rfl) ?_
      apply Exists.intro
      refine ⟨?_, ?_, ?_⟩
      · intro U W hC hH
        have hws := Nat.le_trans hbs hC.grow.size
        simp only [HypsU, predsOf, Region.binds, List.filterMap_cons, List.filterMap_nil, if_true, List.nil_append, List.cons_append, List.getD_cons_zero, List.getD_cons_succ] at hH
        simp only [fillPuts, Act.put, List.setIfInBounds_toArray, List.set_cons_zero, List.set_cons_succ, Nat.reduceAdd]
        go_wp2_with fail
        refine ⟨rfl, rfl, AT.of_below (by (repeat' (first | (with_reducible exact Below.refl _ _) | (with_reducible assumption) | (with_reducible refine Below.alloc ?_ ?_ _) | (with_reducible refine below_grew ?_ ?_ _) | (with_reducible refine Below.setCell ?_ ?_ _) | (with_reducible refine Below.drew ?_) | (with_reducible refine below_drewN ?_ _) | omega | (simp; done) | (simp; omega)))) hws, ?_⟩
        conv => lhs; whnf
        try rfl
      · exact fun _ => rfl
      simp only [List.nil_append, List.cons_append, Nat.reduceAdd]
      refine wpInv_det (by kernel_rfl) (by kernel_rfl) ?_
      apply Exists.intro
      refine ⟨?_, ?_, ?_⟩
      · intro U W hC hH
        have hws := Nat.le_trans hbs hC.grow.size
        simp only [HypsU, predsOf, Region.binds, List.filterMap_cons, List.filterMap_nil, if_true, List.nil_append, List.cons_append, List.getD_cons_zero, List.getD_cons_succ] at hH
        simp only [fillPuts, Act.put, List.setIfInBounds_toArray, List.set_cons_zero, List.set_cons_succ, Nat.reduceAdd]
        go_wp2_with fail
        refine ⟨rfl, rfl, AT.of_below (by (repeat' (first | (with_reducible exact Below.refl _ _) | (with_reducible assumption) | (with_reducible refine Below.alloc ?_ ?_ _) | (with_reducible refine below_grew ?_ ?_ _) | (with_reducible refine Below.setCell ?_ ?_ _) | (with_reducible refine Below.drew ?_) | (with_reducible refine below_drewN ?_ _) | omega | (simp; done) | (simp; omega)))) hws, ?_⟩
        conv => lhs; whnf
        try rfl
      · exact fun _ => rfl
      simp only [List.nil_append, List.cons_append, Nat.reduceAdd]
      refine wpInv_det (by kernel_rfl) (by kernel_rfl) ?_
      apply Exists.intro
      refine ⟨?_, ?_, ?_⟩
      · intro U W hC hH
        have hws := Nat.le_trans hbs hC.grow.size
        simp only [HypsU, predsOf, Region.binds, List.filterMap_cons, List.filterMap_nil, if_true, List.nil_append, List.cons_append, List.getD_cons_zero, List.getD_cons_succ] at hH
        simp only [fillPuts, Act.put, List.setIfInBounds_toArray, List.set_cons_zero, List.set_cons_succ, Nat.reduceAdd]
        go_wp2_with fail
        refine ⟨rfl, rfl, AT.of_below (by (repeat' (first | (with_reducible exact Below.refl _ _) | (with_reducible assumption) | (with_reducible refine Below.alloc ?_ ?_ _) | (with_reducible refine below_grew ?_ ?_ _) | (with_reducible refine Below.setCell ?_ ?_ _) | (with_reducible refine Below.drew ?_) | (with_reducible refine below_drewN ?_ _) | omega | (simp; done) | (simp; omega)))) hws, ?_⟩
        conv => lhs; whnf
        try rfl
      · exact fun _ => rfl
      simp only [List.nil_append, List.cons_append, Nat.reduceAdd]
      refine wpInv_det (by kernel_rfl) (by kernel_rfl) ?_
      apply Exists.intro
      refine ⟨?_, ?_, ?_⟩
      · intro U W hC hH
        have hws := Nat.le_trans hbs hC.grow.size
        simp only [HypsU, predsOf, Region.binds, List.filterMap_cons, List.filterMap_nil, if_true, List.nil_append, List.cons_append, List.getD_cons_zero, List.getD_cons_succ] at hH
        simp only [fillPuts, Act.put, List.setIfInBounds_toArray, List.set_cons_zero, List.set_cons_succ, Nat.reduceAdd]
        go_wp2_with fail
        refine ⟨rfl, rfl, AT.of_below (by (repeat' (first | (with_reducible exact Below.refl _ _) | (with_reducible assumption) | (with_reducible refine Below.alloc ?_ ?_ _) | (with_reducible refine below_grew ?_ ?_ _) | (with_reducible refine Below.setCell ?_ ?_ _) | (with_reducible refine Below.drew ?_) | (with_reducible refine below_drewN ?_ _) | omega | (simp; done) | (simp; omega)))) hws, ?_⟩
        conv => lhs; whnf
        try rfl
      · exact fun _ => rfl
      simp only [List.nil_append, List.cons_append, Nat.reduceAdd]
      refine wpInv_det (by kernel_rfl) (by kernel_rfl) ?_
      apply Exists.intro
      refine ⟨?_, ?_, ?_⟩
      · intro U W hC hH
        have hws := Nat.le_trans hbs hC.grow.size
        simp only [HypsU, predsOf, Region.binds, List.filterMap_cons, List.filterMap_nil, if_true, List.nil_append, List.cons_append, List.getD_cons_zero, List.getD_cons_succ] at hH
        simp only [fillPuts, Act.put, List.setIfInBounds_toArray, List.set_cons_zero, List.set_cons_succ, Nat.reduceAdd]
        go_wp2_with fail; refine (HTU.out _ _ (HC.out.below (HB.out.trans (hC.below.mono hpw1)))).mono ?_; rintro e w' ⟨rfl, hb1⟩; obtain ⟨x1, rfl⟩ := below_as_grew hb1; clear hb1; go_wp2_with fail
        refine ⟨rfl, rfl, AT.of_below (by (repeat' (first | (with_reducible exact Below.refl _ _) | (with_reducible assumption) | (with_reducible refine Below.alloc ?_ ?_ _) | (with_reducible refine below_grew ?_ ?_ _) | (with_reducible refine Below.setCell ?_ ?_ _) | (with_reducible refine Below.drew ?_) | (with_reducible refine below_drewN ?_ _) | omega | (simp; done) | (simp; omega)))) hws, ?_⟩
        conv => lhs; whnf
        try rfl
      · exact fun _ => rfl
      simp only [List.nil_append, List.cons_append, Nat.reduceAdd]
      obtain ⟨T, hT⟩ : ∃ T : Int × Int, T = turnF ((k : Int) * 256 / (n : Int)) := ⟨_, rfl⟩
      have HTT := Lib.hid hT
      refine ⟨fun U W => ∃ q, U 10 = .slice (some ⟨q, 0, none⟩) 1 1 ∧ wr.heap.size ≤ q ∧ W.heap[q]? = some (.cells #[.int .i64 T.1, .int .i64 T.2] 49 (0, 0)), fun _ _ => rfl, ?_, ?_, ?_⟩
      · rintro U W W' hC hT ⟨q, h0, hq, hqc⟩
        exact ⟨q, h0, hq, (hT.grow.block q (Array.getElem?_eq_some_iff.1 hqc).1 (fun e => by have := (own_lt' HR.out q e.symm).2; omega)).trans hqc⟩
      · intro U W hC hH
        have hws := Nat.le_trans hbs hC.grow.size
        simp only [HypsU, predsOf, Region.binds, List.filterMap_cons, List.filterMap_nil, if_true, List.nil_append, List.cons_append, List.getD_cons_zero, List.getD_cons_succ] at hH
        simp only [fillPuts, Act.put, List.setIfInBounds_toArray, List.set_cons_zero, List.set_cons_succ, Nat.reduceAdd]
        go_wp2_with fail
        rw [← hT]
        refine ⟨rfl, rfl, AT.of_below (by (repeat' (first | (with_reducible exact Below.refl _ _) | (with_reducible assumption) | (with_reducible refine Below.alloc ?_ ?_ _) | (with_reducible refine below_grew ?_ ?_ _) | (with_reducible refine Below.setCell ?_ ?_ _) | (with_reducible refine Below.drew ?_) | (with_reducible refine below_drewN ?_ _) | omega | (simp; done) | (simp; omega)))) hws, ⟨_, updU_eq _ _ _, hC.grow.size, alloc_at _ _⟩, fun h => by cases h⟩
      clear hT
      simp only [List.nil_append, List.cons_append, Nat.reduceAdd]
      refine ⟨fun U W => ∃ g c, U 11 = .slice (some ⟨g, 0, none⟩) (k + 1) c ∧ W.ownsRow (pb + 1) 49 2 (.slice (some ⟨g, 0, none⟩) (k + 1) c) (k + 1) (turnsTo n (k + 1)), fun _ _ => rfl, ?_, ?_, ?_⟩
      · rintro U W W' hC hT ⟨g, c, h0, ho⟩
        exact ⟨g, c, h0, hT.keep _ _ (Nat.le_refl _) ho⟩
      · intro U W hC hH
        have hws := Nat.le_trans hbs hC.grow.size
        simp only [HypsU, predsOf, Region.binds, List.filterMap_cons, List.filterMap_nil, if_true, List.nil_append, List.cons_append, List.getD_cons_zero, List.getD_cons_succ] at hH
        simp only [fillPuts, Act.put, List.setIfInBounds_toArray, List.set_cons_zero, List.set_cons_succ, Nat.reduceAdd]
        obtain ⟨h4, ⟨q, h10, hq, hqc⟩, -⟩ := hH
        simp only [h4, h10]
        have hRW := hC.keep tv k (by omega) HR.out
        refine append_at rfl _ _ 32 rfl (pb + 1) 49 49 (.agg #[.int .i64 0, .int .i64 0]) 2 16 Tryd.underlying32 pairInfo rfl (by decide) tv k (turnsTo n) rfl hRW q [_, _] rfl hqc rfl ?h1 ?h63 ?hby hws ?htn ?_
        (case h1 => simp [Value.oneCell']; done)
        (case h63 => exact maxLen_le (by omega))
        (case hby => omega)
        (case htn => rw [turnsTo_succ, HTT.out])
        intro g' c' w' hR' hAT
        refine ⟨rfl, rfl, hAT, ⟨g', c', updU_eq _ _ _, hR'⟩, fun h => by cases h⟩
      simp only [List.nil_append, List.cons_append, Nat.reduceAdd, fillPuts, Act.put, List.setIfInBounds_toArray, List.set_cons_zero, List.set_cons_succ]
      rintro U W hC ⟨h0, h1, h2, h3, h4, h5, h6, h7, h8, h9, -, ⟨g', c', h11, hR'⟩, -⟩ -
      simp only [h0, h1, h2, h3, h4, h5, h6, h7, h8, h9, h11]
      clear h0 h1 h2 h3 h4 h5 h6 h7 h8 h9 h11
      have hc2 : W.heap[pb]? = some (.cells #[.slice (some ⟨ob, 0, none⟩) n n, tv] 130 (0, 0)) := (hC.below.block pb hop1).trans HCC.out
      have hB2 : Below w.heap.size w W := HB.out.trans (hC.below.mono hpw1)
      have hbx2 : Bx ob 3 kI n (fun j => (revF s j : Int)) W := (hC.below.block ob (by omega)).trans HBX.out
      obtain ⟨v', hv'⟩ : ∃ v', v' = Value.slice (some ⟨g', 0, none⟩) (k + 1) c' := ⟨_, rfl⟩
      rw [← hv'] at hR'
      have hcl2 := (block_facts hc2).1 1
      have hfz2 := (block_facts hc2).2.1 1
      have hO := only_setCell W ⟨pb, 1, none⟩ v'
      have hc3 := setCell_own W pb 1 _ _ _ v' hc2
      have hR3 := own_only hR' hO (by show pb < pb + 1; omega)
      have hB3 := hO.below hB2 hpw
      have hbx3 := hbx2.only hO (Ne.symm hpo)
      have hRX : (W.setCell ⟨pb, 1, none⟩ v').ownsRow (pb + 1) 49 2 v' (k + 1) (turnsTo n (k + 1)) := hR3
      have HF := Lib.hid (And.intro hc3 (And.intro hbx3 (And.intro hRX hB3)))
      clear hc3 hR3 hB3 hbx3 hRX hO hbx2 hB2 hc2 hR' hC
      subst hv'
      go_wp2_with fail
      refine ⟨⟨k + 1, by omega, by go_num, _, HF.out.1, HF.out.2.1, HF.out.2.2.1, HF.out.2.2.2⟩, ?_⟩
      simp only [intOf]
      omega
    · have hlt' : ¬ (k : Int) < (m : Int) := by omega
      obtain rfl : k = m := by omega
      go_wp2_with fail
      go_ret2
      exact ⟨pb, rfl, hpw, ob, hob', hpo, tv, HCC.out, HBX.out, own_mono HR.out (by omega), HB.out⟩
end Go.Proofs.YtcibajleknhklaaDoor
end

section
namespace Go.Proofs.YtcibajleknhklaaDoor
open Go.RowKit Go.BigFrame Go.Proofs.YtcibajleknhklaaDoorW.PrintWords Go.Proofs.YtcibajleknhklaaDoorW.PrintLast Go.Proofs.YtcibajleknhklaaDoorW.PrintMore
open PFftOrders RFftOrders
set_option linter.unusedSimpArgs false
set_option linter.unusedVariables false
theorem turnsTo_len (n : Nat) : ∀ m, (turnsTo n m).length = m * 2
  | 0 => rfl
  | m + 1 => by rw [turnsTo_succ, List.length_append, turnsTo_len n m]; simp; omega
theorem turnsTo_get (n : Nat) : ∀ m k, k < m → (turnsTo n m)[k * 2]? = some (.int .i64 (planTurn n k).1) ∧ (turnsTo n m)[k * 2 + 1]? = some (.int .i64 (planTurn n k).2)
  | 0, k, h => by omega
  | m + 1, k, h => by
    have hl := turnsTo_len n m
    have e : planTurn n m = turnF ((m : Int) * 256 / (n : Int)) := by unfold planTurn; congr 1
    rw [turnsTo_succ]
    rcases Nat.lt_or_ge k m with h1 | h1
    · obtain ⟨a, b⟩ := turnsTo_get n m k h1
      rw [List.getElem?_append_left (by omega), List.getElem?_append_left (by omega)]
      exact ⟨a, b⟩
    · obtain rfl : k = m := by omega
      rw [List.getElem?_append_right (by omega), List.getElem?_append_right (by omega), hl, Nat.sub_self, show k * 2 + 1 - k * 2 = 1 from by omega, e]
      exact ⟨rfl, rfl⟩
/-- A plan: its struct at pb, its order at ob, its turns in the row tv. -/
structure PlanR (pb ob : Nat) (tv : Value) (s : Nat) (w : World) : Prop where
  ne : pb ≠ ob
  st : w.heap[pb]? = some (.cells #[.slice (some ⟨ob, 0, none⟩) (2 ^ s) (2 ^ s), tv] 130 (0, 0))
  ord : Bx ob 3 kI (2 ^ s) (fun j => (revF s j : Int)) w
  own : w.ownsRow 0 49 2 tv (2 ^ s / 2) (turnsTo (2 ^ s) (2 ^ s / 2))
theorem PlanR.keep {pb ob s : Nat} {tv : Value} {w w' : World} (h : PlanR pb ob tv s w) (hb : Below w.heap.size w w') : PlanR pb ob tv s w' :=
  ⟨h.ne, (hb.block pb (block_facts h.st).2.2).trans h.st, h.ord.keep hb, ownsRow_below h.own hb⟩
theorem PlanR.upd {pb ob s g : Nat} {tv : Value} {w w' : World} (h : PlanR pb ob tv s w) (hu : Upd g w w') (h1 : pb ≠ g) (h2 : ob ≠ g) (h3 : some g ≠ tv.ownBlock) : PlanR pb ob tv s w' := by
  refine ⟨h.ne, (hu.block pb (block_facts h.st).2.2 h1).trans h.st, (hu.block ob (block_facts h.ord).2.2 h2).trans h.ord, ?_⟩
  obtain ⟨a, b | ⟨g', cap, cur, b1, b2, b3, b4⟩⟩ := h.own
  · exact ⟨a, .inl b⟩
  · exact ⟨a, .inr ⟨g', cap, cur, b1, b2, (hu.block g' (Array.getElem?_eq_some_iff.1 b3).1 (fun e => h3 (by rw [b1, e]; rfl))).trans b3, b4⟩⟩
theorem into_plan (s : Nat) (hs : s < 5) (g zb pb ob cap zc : Nat) (tv : Value) (l : List (Int × Int)) (X : Nat → Int × Int) (w : World) (hP : PlanR pb ob tv s w) (hB : BigW g (2 ^ s) X w)
    (h1 : pb ≠ g) (h2 : ob ≠ g) (h3 : some g ≠ tv.ownBlock)
    (hZ : ∀ k, k < 2 ^ s → w.cell? ⟨zb, k * 2, none⟩ = some (.int .i64 (l.getD k (0, 0)).1) ∧ w.cell? ⟨zb, k * 2 + 1, none⟩ = some (.int .i64 (l.getD k (0, 0)).2)) (hzl : zb < w.heap.size) (hzg : zb ≠ g)
    (h64 : ∀ k, k < 2 ^ s → In64 (l.getD k (0, 0)).1 ∧ In64 (l.getD k (0, 0)).2) (hc : 2 ^ s ≤ cap) (hcc : cap ≤ 1000000) (hl : l.length = 2 ^ s) :
    Calls Tryd.prog 22 #[.pointer (some ⟨pb, 0, none⟩), .slice (some ⟨g, 0, none⟩) (2 ^ s) cap, .slice (some ⟨zb, 0, none⟩) (2 ^ s) zc] w fun e w' => e = .returned (.bool true) ∧ Upd g w w' ∧
      BigW g (2 ^ s) (fun k => sumTo s l k (2 ^ s)) w' := by
  have hpb := block_facts hP.st
  by_cases hs0 : 0 < s
  · have hm : 0 < 2 ^ s / 2 := by
      have := Nat.pow_le_pow_right (n := 2) (by decide) (show 1 ≤ s from hs0)
      omega
    obtain ⟨tb, tc, rfl, -, htl⟩ := own_form hP.own hm
    have hT : TurnsW pb tb (2 ^ s / 2) tc g (planTurn (2 ^ s)) w := ⟨h1, fun e => h3 (by rw [e]; rfl), hpb.2.2, htl, by rw [hpb.1]; rfl, fun k hk => by
      obtain ⟨a, b⟩ := turnsTo_get (2 ^ s) _ k hk
      have a1 := hP.own.cells (g := tb) rfl _ _ a
      have b1 := hP.own.cells (g := tb) rfl _ _ b
      rw [Addr.add_lit, Nat.zero_add] at a1 b1
      exact ⟨a1, b1⟩⟩
    refine (into_any s hs g zb pb ob tb tc cap zc (fun k => l.getD k (0, 0)) X w hB (by rw [hpb.1]; rfl) hpb.2.2 h1 hP.ord h2 (fun _ => hT) hZ hzl hzg h64 hc hcc).mono ?_
    rintro e w' ⟨rfl, hu, hb⟩
    exact ⟨rfl, hu, bigW_ext hb (fun k hk => fft_direct s (by omega) l k hk)⟩
  · refine (into_any s hs g zb pb ob 0 0 cap zc (fun k => l.getD k (0, 0)) X w hB (by rw [hpb.1]; rfl) hpb.2.2 h1 hP.ord h2 (fun h => absurd h hs0) hZ hzl hzg h64 hc hcc).mono ?_
    rintro e w' ⟨rfl, hu, hb⟩
    exact ⟨rfl, hu, bigW_ext hb (fun k hk => fft_direct s (by omega) l k hk)⟩
theorem new_plan (s : Nat) (hs : s < 5) (w : World) (hC : CosW w) :
    Calls Tryd.prog 18 #[.int .i64 ((2 ^ s : Nat) : Int)] w fun e w' => ∃ pb ob tv, e = .returned (.tuple #[.pointer (some ⟨pb, 0, none⟩), .int .i64 0]) ∧ w.heap.size ≤ pb ∧ w.heap.size ≤ ob ∧ (∀ k, tv.ownBlock = some k → w.heap.size ≤ k ∧ k < w'.heap.size) ∧ PlanR pb ob tv s w' ∧ Below w.heap.size w w' := by
  refine (new_any s hs w hC).mono ?_
  rintro e w' ⟨pb, ob, tv, rfl, h1, h2, h3, h4, h5, h6, h7⟩
  exact ⟨pb, ob, tv, rfl, h1, h2, fun k hk => own_lt' h6 k hk, ⟨h3, h4, h5, own_mono h6 (Nat.zero_le _)⟩, h7⟩
theorem bigW_new (w : World) (n : Nat) : BigW w.heap.size n (fun _ => (0, 0)) (w.alloc (.cells (ag kB (n * 4) fun _ => 0) BigT)) := by
  have e : ag kB (n * 4) (bigF fun _ => (0, 0)) = ag kB (n * 4) fun _ => 0 := ag_ext kB _ _ _ (fun j _ => by
    unfold bigF; (repeat' split) <;> first | (show accHi 0 = 0; decide +kernel) | (show accLo 0 = 0; decide +kernel))
  unfold BigW
  rw [Bx, e]
  exact alloc_at _ _
theorem big_zero (i : Nat) : (Value.agg #[.int .i64 0, .int .u64 0, .int .i64 0, .int .u64 0]).cells[i % (Value.agg #[.int .i64 0, .int .u64 0, .int .i64 0, .int .u64 0]).cells.size]! = .int (kB i) 0 := by
  have h : i % 4 = 0 ∨ i % 4 = 1 ∨ i % 4 = 2 ∨ i % 4 = 3 := by omega
  show (#[Value.int .i64 0, .int .u64 0, .int .i64 0, .int .u64 0] : Array Value)[i % 4]! = .int (kB i) 0
  unfold kB
  rcases h with h | h | h | h
  · rw [h, if_pos (by omega)]; rfl
  · rw [h, if_neg (by omega)]; rfl
  · rw [h, if_pos (by omega)]; rfl
  · rw [h, if_neg (by omega)]; rfl
set_option maxHeartbeats 2000000 in
set_option maxRecDepth 100000 in
theorem fast_any (s : Nat) (hs : s < 5) (zb zc : Nat) (l : List (Int × Int)) (w : World) (hC : CosW w)
    (hZ : ∀ k, k < 2 ^ s → w.cell? ⟨zb, k * 2, none⟩ = some (.int .i64 (l.getD k (0, 0)).1) ∧ w.cell? ⟨zb, k * 2 + 1, none⟩ = some (.int .i64 (l.getD k (0, 0)).2)) (hzl : zb < w.heap.size)
    (h64 : ∀ k, k < 2 ^ s → In64 (l.getD k (0, 0)).1 ∧ In64 (l.getD k (0, 0)).2) (hl : l.length = 2 ^ s) :
    Calls Tryd.prog 58 #[.slice (some ⟨zb, 0, none⟩) (2 ^ s) zc] w fun e w' => ∃ g, e = .returned (.slice (some ⟨g, 0, none⟩) (2 ^ s) (2 ^ s)) ∧ w.heap.size ≤ g ∧ BigW g (2 ^ s) (fun k => sumTo s l k (2 ^ s)) w' ∧ Below w.heap.size w w' := by
  have HN := Lib.hid (new_plan s hs)
  have HI := Lib.hid (into_plan s hs)
  have HL := Lib.hid hl
  have HZ := Lib.hid hZ
  have H64 := Lib.hid h64
  have HC := Lib.hid hC
  obtain ⟨n, hn⟩ : ∃ n : Nat, 2 ^ s = n := ⟨_, rfl⟩
  have hn1 : 0 < n := by rw [← hn]; exact Nat.pow_pos (by decide)
  have hn16 : n ≤ 16 := by rw [← hn]; exact Nat.pow_le_pow_right (by decide) (show s ≤ 4 by omega)
  have HPW := Lib.hid hn
  rw [hn] at HN HZ H64 HL ⊢
  clear hl hZ h64 hC hn
  go_enter Tryd.func58, Tryd.ntmps58
  go_wp2_with fail
  refine (HN.out _ HC.out).mono ?_
  rintro e w1 ⟨pb, ob, tv, rfl, hpb, hob, htv, hP, hB⟩
  have HP := Lib.hid hP
  have HB := Lib.hid hB
  have HTV := Lib.hid htv
  clear htv hP hB
  go_wp2_with (at_make; refine make_block _ rfl _ _ _ rfl BigT (.agg #[.int .i64 0, .int .u64 0, .int .i64 0, .int .u64 0]) 4 32 (by kernel_rfl) bigInfo n rfl rfl (by omega) (by omega) kB big_zero ?_)
  obtain rfl := HPW.out
  have hsz := HB.out.size
  refine (HI.out w1.heap.size zb pb ob (2 ^ s) zc tv l (fun _ => (0, 0)) _ (HP.out.keep (by (repeat' (first | (with_reducible exact Below.refl _ _) | (with_reducible assumption) | (with_reducible refine Below.alloc ?_ ?_ _) | (with_reducible refine below_grew ?_ ?_ _) | (with_reducible refine Below.setCell ?_ ?_ _) | (with_reducible refine Below.drew ?_) | (with_reducible refine below_drewN ?_ _) | omega | (simp; done) | (simp; omega))))) (bigW_new w1 _) ?_ ?_ ?_ ?_ ?_ ?_ H64.out (Nat.le_refl _) (by omega) HL.out).mono ?_
  · have := (block_facts HP.out.st).2.2; omega
  · have := (block_facts HP.out.ord).2.2; omega
  · exact fun e => by have := (HTV.out _ e.symm).2; omega
  · intro k hk
    have hb : Below w.heap.size w (w1.alloc (.cells (ag kB (2 ^ s * 4) fun _ => 0) BigT)) := by have := HB.out; (repeat' (first | (with_reducible exact Below.refl _ _) | (with_reducible assumption) | (with_reducible refine Below.alloc ?_ ?_ _) | (with_reducible refine below_grew ?_ ?_ _) | (with_reducible refine Below.setCell ?_ ?_ _) | (with_reducible refine Below.drew ?_) | (with_reducible refine below_drewN ?_ _) | omega | (simp; done) | (simp; omega)))
    obtain ⟨a, b⟩ := HZ.out k hk
    exact ⟨(cell_of_block (hb.block zb hzl) _).trans a, (cell_of_block (hb.block zb hzl) _).trans b⟩
  · simp; omega
  · omega
  rintro e w2 ⟨rfl, hu, hb⟩
  have HU := Lib.hid hu
  have HBW := Lib.hid hb
  clear hu hb
  go_wp2_with fail
  go_ret
  refine ⟨w1.heap.size, rfl, hsz, HBW.out, ?_⟩
  have hb : Below w.heap.size w (w1.alloc (.cells (ag kB (2 ^ s * 4) fun _ => 0) BigT)) := by have := HB.out; (repeat' (first | (with_reducible exact Below.refl _ _) | (with_reducible assumption) | (with_reducible refine Below.alloc ?_ ?_ _) | (with_reducible refine below_grew ?_ ?_ _) | (with_reducible refine Below.setCell ?_ ?_ _) | (with_reducible refine Below.drew ?_) | (with_reducible refine below_drewN ?_ _) | omega | (simp; done) | (simp; omega)))
  exact hb.trans ⟨HU.out.os, HU.out.tape, HU.out.output, HU.out.size, fun k hk => HU.out.block k (by have := hb.size; omega) (by omega)⟩
end Go.Proofs.YtcibajleknhklaaDoor
end

section
namespace Go.Proofs.YtcibajleknhklaaDoor
open Go.RowKit Go.BigFrame Go.Proofs.YtcibajleknhklaaDoorW.PrintWords Go.Proofs.YtcibajleknhklaaDoorW.PrintLast Go.Proofs.YtcibajleknhklaaDoorW.PrintMore
set_option linter.unusedSimpArgs false
set_option linter.unusedVariables false
set_option maxHeartbeats 2000000 in
set_option maxRecDepth 100000 in
theorem awake21 (w : World) (hT : CosW w) :
    Calls Tryd.prog 17 #[] w fun e w' => e = .returned (.bool true) ∧ Below w.heap.size w w' := by
  have ho : ∀ x w, In64 x → Calls Tryd.prog 59 #[.int .i64 x] w fun e w' => e = .returned (.agg #[.int .i64 (accHi x), .int .u64 (accLo x)]) ∧ Below w.heap.size w w' := fun x w h => of_any x h w
  have hr : ∀ w, Calls Tryd.prog 20 #[.int .i64 8] w fun e w' => ∃ g, e = .returned (.slice (some ⟨g, 0, none⟩) 8 8) ∧ w.heap.size ≤ g ∧ Bx g 3 kI 8 (fun j => (revF 3 j : Int)) w' ∧ Below w.heap.size w w' := fun w => order_any 3 (by decide) w
  have hf : ∀ zb w, CosW w → (∀ k, k < 2 → w.cell? ⟨zb, k * 2, none⟩ = some (.int .i64 (([(1, 0), (0, 1)] : List (Int × Int)).getD k (0, 0)).1) ∧ w.cell? ⟨zb, k * 2 + 1, none⟩ = some (.int .i64 (([(1, 0), (0, 1)] : List (Int × Int)).getD k (0, 0)).2)) → zb < w.heap.size →
    Calls Tryd.prog 58 #[.slice (some ⟨zb, 0, none⟩) 2 2] w fun e w' => ∃ g, e = .returned (.slice (some ⟨g, 0, none⟩) 2 2) ∧ w.heap.size ≤ g ∧ BigW g 2 (fun k => sumTo 1 [(1, 0), (0, 1)] k 2) w' ∧ Below w.heap.size w w' := fun zb w h1 h2 h3 => fast_any 1 (by decide) zb 2 [(1, 0), (0, 1)] w h1 h2 h3 (by unfold In64; decide) rfl
  have HO := Lib.hid ho
  have HR := Lib.hid hr
  have HF := Lib.hid hf
  have HT := Lib.hid hT
  have i1 : In64 4096 := by unfold In64; omega
  have i2 : In64 (-4096) := by unfold In64; omega
  clear ho hr hf hT
  go_enter Tryd.func17, Tryd.ntmps17
  go_wp2_with fail
  refine (HR.out _).mono ?_
  rintro e w1 ⟨ob, rfl, hob, hO, hb1⟩
  have hs1 := hb1.size
  have HOB := Lib.hid hO
  have HB1 := Lib.hid hb1
  clear hO hb1
  go_wp2_with fail
  refine (HF.out w1.heap.size _ (HT.out.below (by have := HB1.out; (repeat' (first | (with_reducible exact Below.refl _ _) | (with_reducible assumption) | (with_reducible refine Below.alloc ?_ ?_ _) | (with_reducible refine below_grew ?_ ?_ _) | (with_reducible refine Below.setCell ?_ ?_ _) | (with_reducible refine Below.drew ?_) | (with_reducible refine below_drewN ?_ _) | omega | (simp; done) | (simp; omega))))) ?_ (by simp)).mono ?_
  · intro k hk
    have : k = 0 ∨ k = 1 := by omega
    rcases this with rfl | rfl <;> simp [go_sem]
  rintro e w2 ⟨g, rfl, hg, hbg, hb2⟩
  have hB : Below w.heap.size w w2 := Below.trans (by have := HB1.out; (repeat' (first | (with_reducible exact Below.refl _ _) | (with_reducible assumption) | (with_reducible refine Below.alloc ?_ ?_ _) | (with_reducible refine below_grew ?_ ?_ _) | (with_reducible refine Below.setCell ?_ ?_ _) | (with_reducible refine Below.drew ?_) | (with_reducible refine below_drewN ?_ _) | omega | (simp; done) | (simp; omega)))) (hb2.mono (by have := HB1.out.size; simp; omega))
  have hO2 : Bx ob 3 kI 8 (fun j => (revF 3 j : Int)) w2 := (HOB.out.keep (by (repeat' (first | (with_reducible exact Below.refl _ _) | (with_reducible assumption) | (with_reducible refine Below.alloc ?_ ?_ _) | (with_reducible refine below_grew ?_ ?_ _) | (with_reducible refine Below.setCell ?_ ?_ _) | (with_reducible refine Below.drew ?_) | (with_reducible refine below_drewN ?_ _) | omega | (simp; done) | (simp; omega))))).keep (hb2)
  have c1 := ag_cell hO2 1 (by decide)
  have c6 := ag_cell hO2 6 (by decide)
  have hol := (block_facts hO2).2.2
  rw [show kI 1 = .i64 from rfl, show (revF 3 1 : Int) = 4 from by decide] at c1
  rw [show kI 6 = .i64 from rfl, show (revF 3 6 : Int) = 3 from by decide] at c6
  obtain ⟨x0, x1, x2, x3⟩ := bigW_cells hbg 1 (by decide)
  have e1 : (sumTo 1 [(1, 0), (0, 1)] 1 2) = (4096, -4096) := by decide
  have hgl := (block_facts hbg).2.2
  rw [e1] at x0 x1 x2 x3
  simp only [Nat.one_mul, Nat.reduceAdd] at x0 x1 x2 x3
  clear hbg hb2 e1 hO2
  go_wp2_with fail
  first | refine wp_region_grew2 29 (by kernel_rfl) (by kernel_rfl) ?_ | refine wp_region_grew 29 (by kernel_rfl) (by kernel_rfl) ?_
  simp only [List.take_succ_cons, List.take_zero, List.drop_succ_cons, List.drop_zero]
  repeat (go_big_quiet_step (first | (go_at_call 59; refine Calls.grew_of (HO.out _ _ ?_); assumption)))
  refine wpQuiet_nil ?_
  rintro _ ⟨x, rfl⟩
  go_wp2
  go_ret
  exact ⟨rfl, below_grew hB (hB.size) _⟩
end Go.Proofs.YtcibajleknhklaaDoor
end

section
namespace Go.Proofs.YtcibajleknhklaaDoor
open Go.RowKit Go.BigFrame Go.Proofs.YtcibajleknhklaaDoorW.PrintWords Go.Proofs.YtcibajleknhklaaDoorW.PrintLast Go.Proofs.YtcibajleknhklaaDoorW.PrintMore
open PFftOrders RFftOrders RFftPlans
set_option linter.unusedSimpArgs false
set_option linter.unusedVariables false
/-- There is a plan of n pairs, or there is none. -/
theorem plan_or (n : Int) : (∃ s : Nat, s < 5 ∧ n = ((2 ^ s : Nat) : Int) ∧ spinetref21_Steps.f 20 n = some (s : Int)) ∨ (spinetref21_Steps.f 20 n = some (-1) ∧ fft_there.f n = some false) := by
  by_cases h1 : n = 1
  · exact .inl ⟨0, by decide, by simpa using h1, by rw [h1]; decide +kernel⟩
  by_cases h2 : n = 2
  · exact .inl ⟨1, by decide, by simpa using h2, by rw [h2]; decide +kernel⟩
  by_cases h4 : n = 4
  · exact .inl ⟨2, by decide, by simpa using h4, by rw [h4]; decide +kernel⟩
  by_cases h8 : n = 8
  · exact .inl ⟨3, by decide, by simpa using h8, by rw [h8]; decide +kernel⟩
  by_cases h16 : n = 16
  · exact .inl ⟨4, by decide, by simpa using h16, by rw [h16]; decide +kernel⟩
  refine .inr ⟨?_, ?_⟩
  · have e : ∀ x : Fin 33, wrap64 (x.val : Int) = (x.val : Int) := by decide +kernel
    have e1 : wrap64 1 = 1 := e ⟨1, by decide⟩
    have e2 : wrap64 2 = 2 := e ⟨2, by decide⟩
    have e3 : wrap64 3 = 3 := e ⟨3, by decide⟩
    have e4 : wrap64 4 = 4 := e ⟨4, by decide⟩
    have e5 : wrap64 5 = 5 := e ⟨5, by decide⟩
    have e8 : wrap64 8 = 8 := e ⟨8, by decide⟩
    have e16 : wrap64 16 = 16 := e ⟨16, by decide⟩
    have e32 : wrap64 32 = 32 := e ⟨32, by decide⟩
    simp [spinetref21_Steps.f, spinetref21_Steps.l0, e1, e2, e3, e4, e5, e8, e16, e32, Ne.symm h1, Ne.symm h2, Ne.symm h4, Ne.symm h8, Ne.symm h16]
  · unfold fft_there.f
    by_cases c1 : n ≥ 1
    · by_cases c2 : n ≤ 16
      · have : n = 3 ∨ n = 5 ∨ n = 6 ∨ n = 7 ∨ n = 9 ∨ n = 10 ∨ n = 11 ∨ n = 12 ∨ n = 13 ∨ n = 14 ∨ n = 15 := by omega
        rcases this with rfl | rfl | rfl | rfl | rfl | rfl | rfl | rfl | rfl | rfl | rfl <;> decide +kernel
      · rw [if_pos c1, if_neg c2]
    · rw [if_neg c1]
set_option maxHeartbeats 2000000 in
theorem new_none (n : Int) (h : fft_there.f n = some false) (w : World) :
    Calls Tryd.prog 18 #[.int .i64 n] w fun e w' => e = .returned (.tuple #[.pointer none, .int .i64 2]) ∧ Below w.heap.size w w' := by
  have HT := Lib.hid (fun w => fft_there.calls _ _ w h)
  clear h
  go_enter Tryd.func18, Tryd.ntmps18
  go_wp2_with fail
  refine (HT.out _).mono ?_
  rintro e w1 ⟨rfl, hd⟩
  have HB := Lib.hid (hd.below.mono (by simp) : Below w.heap.size _ w1)
  clear hd
  go_wp2_with fail
  go_ret2
  exact ⟨rfl, HB.out⟩
set_option maxHeartbeats 2000000 in
theorem order_none (n : Int) (h : fft_there.f n = some false) (w : World) :
    Calls Tryd.prog 20 #[.int .i64 n] w fun e w' => e = .returned (.slice none 0 0) ∧ Below w.heap.size w w' := by
  have HT := Lib.hid (fun w => fft_there.calls _ _ w h)
  clear h
  go_enter Tryd.func20, Tryd.ntmps20
  go_wp2_with fail
  refine (HT.out _).mono ?_
  rintro e w1 ⟨rfl, hd⟩
  have HB := Lib.hid (hd.below.mono (by simp) : Below w.heap.size _ w1)
  clear hd
  go_wp2_with fail
  go_ret
  exact ⟨rfl, HB.out⟩
set_option maxHeartbeats 2000000 in
set_option maxRecDepth 100000 in
theorem into_short (pb n a b ca cb : Nat) (O A B : Option Addr) (hn : n ≤ 1000) (w : World) (h : w.cell? ⟨pb, 0, none⟩ = some (.slice O n n)) (hab : ¬ (a = n ∧ b = n)) :
    Calls Tryd.prog 22 #[.pointer (some ⟨pb, 0, none⟩), .slice A a ca, .slice B b cb] w fun e w' => e = .returned (.bool false) ∧ Below w.heap.size w w' := by
  have HP := Lib.hid (planN_any pb n n O hn w h)
  clear h
  by_cases ha : a = n
  · have hb : ¬ b = n := fun e => hab ⟨ha, e⟩
    have h1 : ((a : Int) != (n : Int)) = false := bne_eq_false_iff_eq.mpr (by omega)
    have h2 : ((b : Int) != (n : Int)) = true := bne_iff_ne.mpr (by omega)
    clear ha hab
    go_enter Tryd.func22, Tryd.ntmps22
    go_wp2_with fail
    refine HP.out.mono ?_
    rintro e w1 ⟨rfl, hb1⟩
    have HB := Lib.hid hb1
    clear hb1
    go_wp2_with fail
    go_ret
    exact ⟨rfl, HB.out⟩
  · have h1 : ((a : Int) != (n : Int)) = true := bne_iff_ne.mpr (by omega)
    clear hab
    go_enter Tryd.func22, Tryd.ntmps22
    go_wp2_with fail
    refine HP.out.mono ?_
    rintro e w1 ⟨rfl, hb1⟩
    have HB := Lib.hid hb1
    clear hb1
    go_wp2_with fail
    go_ret
    exact ⟨rfl, HB.out⟩
theorem pair_zero (i : Nat) : (Value.agg #[.int .i64 0, .int .i64 0]).cells[i % (Value.agg #[.int .i64 0, .int .i64 0]).cells.size]! = .int (kI i) 0 := by
  have h : i % 2 = 0 ∨ i % 2 = 1 := by omega
  show (#[Value.int .i64 0, .int .i64 0] : Array Value)[i % 2]! = .int (kI i) 0
  unfold kI
  rcases h with h | h
  · rw [h]; rfl
  · rw [h]; rfl
theorem sumTo_zero (s : Nat) (l : List (Int × Int)) (k : Nat) : ∀ n, (∀ j, j < n → l.getD j (0, 0) = (0, 0)) → sumTo s l k n = (0, 0)
  | 0, _ => rfl
  | n + 1, h => by
    rw [sumTo, sumTo_zero s l k n (fun j hj => h j (by omega))]
    unfold term
    rw [h n (by omega)]
    simp [wmul]
/-- The first k numbers begin with 7. -/
def sevens (k : Nat) (j : Nat) : Int := if j % 4 = 0 ∧ j / 4 < k then 7 else 0
theorem sevens_step (k j : Nat) : updI (sevens k) (k * 4) 7 j = sevens (k + 1) j := by
  unfold updI sevens
  by_cases h : j = k * 4
  · rw [if_pos h, if_pos (by omega)]
  · rw [if_neg h]
    by_cases h2 : j % 4 = 0 ∧ j / 4 < k
    · rw [if_pos h2, if_pos (by omega)]
    · rw [if_neg h2, if_neg (by omega)]
theorem big_sevens (n j : Nat) (hj : j / 4 < n) : sevens n j = bigF (fun _ => (7 * 18446744073709551616, 0)) j := by
  unfold sevens bigF
  have e1 : accHi (7 * 18446744073709551616) = 7 := by decide +kernel
  have e2 : accLo (7 * 18446744073709551616) = 0 := by decide +kernel
  have e3 : accHi 0 = 0 := by decide +kernel
  have e4 : accLo 0 = 0 := by decide +kernel
  by_cases h : j % 4 = 0
  · rw [if_pos ⟨h, hj⟩, if_pos h]; exact e1.symm
  · rw [if_neg (fun e => h e.1), if_neg h]
    split
    · exact e2.symm
    · split
      · exact e3.symm
      · exact e4.symm
set_option maxHeartbeats 4000000 in
set_option maxRecDepth 100000 in
theorem plans_none (n a b : Int) (hs : spinetref21_Steps.f 20 n = some (-1)) (hn : fft_there.f n = some false) (w : World) (hT : CosW w) :
    Calls Tryd.prog 3 #[.int .i64 n, .int .u8 a, .int .u8 b] w fun e w' => e = .returned (.bool true) ∧ Below w.heap.size w w' := by
  have HAW := Lib.hid (awake21 w hT)
  have HN := Lib.hid (new_none n hn)
  have HO := Lib.hid (order_none n hn)
  have HS := Lib.hid (fun w => spinetref21_Steps.calls _ _ _ w hs)
  clear hs hn hT
  go_enter Tryd.func3, Tryd.ntmps3
  go_wp2_with fail
  refine HAW.out.mono ?_
  rintro e w1 ⟨rfl, hb⟩
  have HB := Lib.hid hb
  clear hb
  go_wp2_with fail
  refine (HN.out _).mono ?_
  rintro e w2 ⟨rfl, hb⟩
  have HB2 := Lib.hid (HB.out.trans (hb.mono HB.out.size))
  clear hb
  go_wp2_with fail
  refine (HS.out _).mono ?_
  rintro e w3 ⟨rfl, hb⟩
  have HB3 := Lib.hid (HB2.out.trans (hb.below.mono HB2.out.size))
  clear hb
  go_wp2_with fail
  refine (HO.out _).mono ?_
  rintro e w4 ⟨rfl, hb⟩
  have HB4 := Lib.hid (HB3.out.trans (hb.mono HB3.out.size))
  clear hb
  go_wp2_with fail
  go_ret
  exact ⟨rfl, HB4.out⟩
set_option maxHeartbeats 4000000 in
set_option maxRecDepth 100000 in
theorem plans_some (t : Nat) (ht5 : t < 5) (n : Nat) (hn : 2 ^ t = n) (hs : spinetref21_Steps.f 20 (n : Int) = some (t : Int)) (a b : Int) (w : World) (ha : 0 ≤ a ∧ a ≤ 255) (hb : 0 ≤ b ∧ b ≤ 255) (hT : CosW w) :
    Calls Tryd.prog 3 #[.int .i64 (n : Int), .int .u8 a, .int .u8 b] w fun e w' => e = .returned (.bool true) ∧ Below w.heap.size w w' := by
  have HAW := Lib.hid (awake21 w hT)
  have HS := Lib.hid (fun w => spinetref21_Steps.calls _ _ _ w hs)
  have hn1 : 0 < n := by rw [← hn]; exact Nat.pow_pos (by decide)
  have hn16 : n ≤ 16 := by rw [← hn]; exact Nat.pow_le_pow_right (by decide) (show t ≤ 4 by omega)
  have hnw := fun w h => new_plan t ht5 w h
  have hip := into_plan t ht5
  rw [hn] at hnw hip
  have HN := Lib.hid hnw
  have HIP := Lib.hid hip
  have HC := Lib.hid hT
  have HNN := Lib.hid hn
  obtain ⟨α, hα, hα20⟩ : ∃ α : Nat, a % 20 = (α : Int) ∧ α < 20 := ⟨(a % 20).toNat, by omega, by omega⟩
  obtain ⟨β, hβ, hβ20⟩ : ∃ β : Nat, b % 20 = (β : Int) ∧ β < 20 := ⟨(b % 20).toNat, by omega, by omega⟩
  clear hnw hip hT hn hs
  go_enter Tryd.func3, Tryd.ntmps3
  go_wp2_with fail
  refine HAW.out.mono ?_
  rintro e w1 ⟨rfl, hb1⟩
  have HB := Lib.hid hb1
  clear hb1
  go_wp2_with fail
  refine (HN.out _ (HC.out.below HB.out)).mono ?_
  rintro e w2 ⟨pb, ob, tv, rfl, hpb, hob, htv, hP, hb2⟩
  have hB2 := HB.out.trans (hb2.mono HB.out.size)
  have htv' : ∀ k, tv.ownBlock = some k → k < w2.heap.size := fun k hk => (htv k hk).2
  have HP := Lib.hid hP
  have HB2 := Lib.hid hB2
  have HTV := Lib.hid htv'
  clear hb2 hP hB2 htv htv'
  go_wp2_with fail
  refine (HS.out _).mono ?_
  rintro e w3 ⟨rfl, hb⟩
  have HB3 := Lib.hid (HB2.out.trans (hb.below.mono HB2.out.size))
  have HP3 := Lib.hid (HP.out.keep hb.below)
  have hs3 := hb.below.size
  have hst := block_facts HP3.out.st
  have hcP : w3.cell? ⟨pb, 0, none⟩ = some (.slice (some ⟨ob, 0, none⟩) n n) := by rw [hst.1, HNN.out]; rfl
  have HPN := Lib.hid (planN_any pb n n (some ⟨ob, 0, none⟩) (by omega) w3 hcP)
  have ht0 : ¬ (t : Int) < 0 := by omega
  clear hb hcP hst
  go_wp2_with fail
  refine HPN.out.mono ?_
  rintro e w4 ⟨rfl, hb⟩
  have HB4 := Lib.hid (HB3.out.trans (hb.mono HB3.out.size))
  have HP4 := Lib.hid (HP3.out.keep hb)
  have hs4 := hb.size
  have hnn : ((n : Int) != (n : Int)) = false := by simp
  clear hb HPN HP3 HB3 HP HB2
  go_wp2_with fail
  refine wp_region_inv [3, 7] (fun W => Below w4.heap.size w4 W) (fun W W' => Below W.heap.size W W') 9 (by kernel_rfl) (by kernel_rfl) (by kernel_rfl) ((Below.refl _ _).drew) (fun W W' h h' => h.trans (h'.mono h.size)) (fun _ _ h => h.size) ?_
  simp only [List.take_succ_cons, List.take_zero, List.drop_succ_cons, List.drop_zero]
  refine wpInv_det (by kernel_rfl) (by kernel_rfl) ?_
  apply Exists.intro
  refine ⟨?_, ?_, ?_⟩
  · intro U W hC hH
    have hc1 := (bcell hC).1
    have hf1 := (bcell hC).2
    simp only [HypsU, predsOf, Region.binds, List.filterMap_cons, List.filterMap_nil, if_true, List.nil_append, List.cons_append, List.getD_cons_zero, List.getD_cons_succ] at hH
    simp only [fillPuts, Act.put, List.setIfInBounds_toArray, List.set_cons_zero, List.set_cons_succ, Nat.reduceAdd]
    go_wp2_with fail
    refine ⟨rfl, rfl, by (repeat' (first | (with_reducible exact Below.refl _ _) | (with_reducible assumption) | (with_reducible refine Below.alloc ?_ ?_ _) | (with_reducible refine below_grew ?_ ?_ _) | (with_reducible refine Below.setCell ?_ ?_ _) | (with_reducible refine Below.drew ?_) | (with_reducible refine below_drewN ?_ _) | omega | (simp; done) | (simp; omega))), ?_⟩
    conv => lhs; whnf
    try rfl
  · exact fun _ => rfl
  simp only [List.nil_append, List.cons_append, Nat.reduceAdd]
  refine wpInv_det (by kernel_rfl) (by kernel_rfl) ?_
  apply Exists.intro
  refine ⟨?_, ?_, ?_⟩
  · intro U W hC hH
    have hc1 := (bcell hC).1
    have hf1 := (bcell hC).2
    simp only [HypsU, predsOf, Region.binds, List.filterMap_cons, List.filterMap_nil, if_true, List.nil_append, List.cons_append, List.getD_cons_zero, List.getD_cons_succ] at hH
    simp only [fillPuts, Act.put, List.setIfInBounds_toArray, List.set_cons_zero, List.set_cons_succ, Nat.reduceAdd]
    go_wp2_with fail
    refine ⟨rfl, rfl, by (repeat' (first | (with_reducible exact Below.refl _ _) | (with_reducible assumption) | (with_reducible refine Below.alloc ?_ ?_ _) | (with_reducible refine below_grew ?_ ?_ _) | (with_reducible refine Below.setCell ?_ ?_ _) | (with_reducible refine Below.drew ?_) | (with_reducible refine below_drewN ?_ _) | omega | (simp; done) | (simp; omega))), ?_⟩
    conv => lhs; whnf
    try rfl
  · exact fun _ => rfl
  simp only [List.nil_append, List.cons_append, Nat.reduceAdd]
  refine wpInv_det (by kernel_rfl) (by kernel_rfl) ?_
  apply Exists.intro
  refine ⟨?_, ?_, ?_⟩
  · intro U W hC hH
    have hc1 := (bcell hC).1
    have hf1 := (bcell hC).2
    simp only [HypsU, predsOf, Region.binds, List.filterMap_cons, List.filterMap_nil, if_true, List.nil_append, List.cons_append, List.getD_cons_zero, List.getD_cons_succ] at hH
    simp only [fillPuts, Act.put, List.setIfInBounds_toArray, List.set_cons_zero, List.set_cons_succ, Nat.reduceAdd]
    go_wp2_with fail
    refine ⟨rfl, rfl, by (repeat' (first | (with_reducible exact Below.refl _ _) | (with_reducible assumption) | (with_reducible refine Below.alloc ?_ ?_ _) | (with_reducible refine below_grew ?_ ?_ _) | (with_reducible refine Below.setCell ?_ ?_ _) | (with_reducible refine Below.drew ?_) | (with_reducible refine below_drewN ?_ _) | omega | (simp; done) | (simp; omega))), ?_⟩
    conv => lhs; whnf
    try rfl
  · exact fun _ => rfl
  simp only [List.nil_append, List.cons_append, Nat.reduceAdd]
  refine ⟨fun U W => ∃ p, U 3 = .slice (some ⟨p, 0, none⟩) α α ∧ w4.heap.size ≤ p ∧ Bx p BigT kB (α * 4) (fun _ => 0) W, fun _ _ => rfl, ?_, ?_, ?_⟩
  · rintro U W W' hC hT ⟨p, h3, hp, hpc⟩
    exact ⟨p, h3, hp, hpc.keep hT⟩
  · intro U W hC hH
    simp only [HypsU, predsOf, Region.binds, List.filterMap_cons, List.filterMap_nil, if_true, List.nil_append, List.cons_append, List.getD_cons_zero, List.getD_cons_succ] at hH
    simp only [fillPuts, Act.put, List.setIfInBounds_toArray, List.set_cons_zero, List.set_cons_succ, Nat.reduceAdd]
    have h2 : U 2 = .int .i64 (α : Int) := by rw [hH.1, hα]
    rw [h2]
    clear hH h2
    go_wp2_with (at_make; refine make_block _ rfl _ _ _ rfl BigT (.agg #[.int .i64 0, .int .u64 0, .int .i64 0, .int .u64 0]) 4 32 (by kernel_rfl) bigInfo α rfl rfl (by omega) (by omega) kB big_zero ?_)
    refine ⟨rfl, rfl, by (repeat' (first | (with_reducible exact Below.refl _ _) | (with_reducible assumption) | (with_reducible refine Below.alloc ?_ ?_ _) | (with_reducible refine below_grew ?_ ?_ _) | (with_reducible refine Below.setCell ?_ ?_ _) | (with_reducible refine Below.drew ?_) | (with_reducible refine below_drewN ?_ _) | omega | (simp; done) | (simp; omega))), ⟨_, updU_eq _ _ _, hC.size, alloc_at _ _⟩, ⟨_, rfl, Nat.le_refl _, by simp⟩⟩
  simp only [List.nil_append, List.cons_append, Nat.reduceAdd]
  refine wpInv_det (by kernel_rfl) (by kernel_rfl) ?_
  apply Exists.intro
  refine ⟨?_, ?_, ?_⟩
  · intro U W hC hH
    have hc1 := (bcell hC).1
    have hf1 := (bcell hC).2
    simp only [HypsU, predsOf, Region.binds, List.filterMap_cons, List.filterMap_nil, if_true, List.nil_append, List.cons_append, List.getD_cons_zero, List.getD_cons_succ] at hH
    simp only [fillPuts, Act.put, List.setIfInBounds_toArray, List.set_cons_zero, List.set_cons_succ, Nat.reduceAdd]
    go_wp2_with fail
    refine ⟨rfl, rfl, by (repeat' (first | (with_reducible exact Below.refl _ _) | (with_reducible assumption) | (with_reducible refine Below.alloc ?_ ?_ _) | (with_reducible refine below_grew ?_ ?_ _) | (with_reducible refine Below.setCell ?_ ?_ _) | (with_reducible refine Below.drew ?_) | (with_reducible refine below_drewN ?_ _) | omega | (simp; done) | (simp; omega))), ?_⟩
    conv => lhs; whnf
    try rfl
  · exact fun _ => rfl
  simp only [List.nil_append, List.cons_append, Nat.reduceAdd]
  refine wpInv_det (by kernel_rfl) (by kernel_rfl) ?_
  apply Exists.intro
  refine ⟨?_, ?_, ?_⟩
  · intro U W hC hH
    have hc1 := (bcell hC).1
    have hf1 := (bcell hC).2
    simp only [HypsU, predsOf, Region.binds, List.filterMap_cons, List.filterMap_nil, if_true, List.nil_append, List.cons_append, List.getD_cons_zero, List.getD_cons_succ] at hH
    simp only [fillPuts, Act.put, List.setIfInBounds_toArray, List.set_cons_zero, List.set_cons_succ, Nat.reduceAdd]
    go_wp2_with fail
    refine ⟨rfl, rfl, by (repeat' (first | (with_reducible exact Below.refl _ _) | (with_reducible assumption) | (with_reducible refine Below.alloc ?_ ?_ _) | (with_reducible refine below_grew ?_ ?_ _) | (with_reducible refine Below.setCell ?_ ?_ _) | (with_reducible refine Below.drew ?_) | (with_reducible refine below_drewN ?_ _) | omega | (simp; done) | (simp; omega))), ?_⟩
    conv => lhs; whnf
    try rfl
  · exact fun _ => rfl
  simp only [List.nil_append, List.cons_append, Nat.reduceAdd]
  refine wpInv_det (by kernel_rfl) (by kernel_rfl) ?_
  apply Exists.intro
  refine ⟨?_, ?_, ?_⟩
  · intro U W hC hH
    have hc1 := (bcell hC).1
    have hf1 := (bcell hC).2
    simp only [HypsU, predsOf, Region.binds, List.filterMap_cons, List.filterMap_nil, if_true, List.nil_append, List.cons_append, List.getD_cons_zero, List.getD_cons_succ] at hH
    simp only [fillPuts, Act.put, List.setIfInBounds_toArray, List.set_cons_zero, List.set_cons_succ, Nat.reduceAdd]
    go_wp2_with fail
    refine ⟨rfl, rfl, by (repeat' (first | (with_reducible exact Below.refl _ _) | (with_reducible assumption) | (with_reducible refine Below.alloc ?_ ?_ _) | (with_reducible refine below_grew ?_ ?_ _) | (with_reducible refine Below.setCell ?_ ?_ _) | (with_reducible refine Below.drew ?_) | (with_reducible refine below_drewN ?_ _) | omega | (simp; done) | (simp; omega))), ?_⟩
    conv => lhs; whnf
    try rfl
  · exact fun _ => rfl
  simp only [List.nil_append, List.cons_append, Nat.reduceAdd]
  refine ⟨fun U W => ∃ p, U 7 = .slice (some ⟨p, 0, none⟩) β β ∧ w4.heap.size ≤ p ∧ Bx p 49 kI (β * 2) (fun _ => 0) W, fun _ _ => rfl, ?_, ?_, ?_⟩
  · rintro U W W' hC hT ⟨p, h3, hp, hpc⟩
    exact ⟨p, h3, hp, hpc.keep hT⟩
  · intro U W hC hH
    simp only [HypsU, predsOf, Region.binds, List.filterMap_cons, List.filterMap_nil, if_true, List.nil_append, List.cons_append, List.getD_cons_zero, List.getD_cons_succ] at hH
    simp only [fillPuts, Act.put, List.setIfInBounds_toArray, List.set_cons_zero, List.set_cons_succ, Nat.reduceAdd]
    have h2 : U 6 = .int .i64 (β : Int) := by rw [hH.1, hβ]
    rw [h2]
    clear hH h2
    go_wp2_with (at_make; refine make_block _ rfl _ _ _ rfl 49 (.agg #[.int .i64 0, .int .i64 0]) 2 16 (by kernel_rfl) pairInfo β rfl rfl (by omega) (by omega) kI pair_zero ?_)
    refine ⟨rfl, rfl, by (repeat' (first | (with_reducible exact Below.refl _ _) | (with_reducible assumption) | (with_reducible refine Below.alloc ?_ ?_ _) | (with_reducible refine below_grew ?_ ?_ _) | (with_reducible refine Below.setCell ?_ ?_ _) | (with_reducible refine Below.drew ?_) | (with_reducible refine below_drewN ?_ _) | omega | (simp; done) | (simp; omega))), ⟨_, updU_eq _ _ _, hC.size, alloc_at _ _⟩, ⟨_, rfl, Nat.le_refl _, by simp⟩⟩
  simp only [List.nil_append, List.cons_append, Nat.reduceAdd]
  refine wpInv_det (by kernel_rfl) (by kernel_rfl) ?_
  apply Exists.intro
  refine ⟨?_, ?_, ?_⟩
  · intro U W hC hH
    have hc1 := (bcell hC).1
    have hf1 := (bcell hC).2
    simp only [HypsU, predsOf, Region.binds, List.filterMap_cons, List.filterMap_nil, if_true, List.nil_append, List.cons_append, List.getD_cons_zero, List.getD_cons_succ] at hH
    simp only [fillPuts, Act.put, List.setIfInBounds_toArray, List.set_cons_zero, List.set_cons_succ, Nat.reduceAdd]
    go_wp2_with fail
    refine ⟨rfl, rfl, by (repeat' (first | (with_reducible exact Below.refl _ _) | (with_reducible assumption) | (with_reducible refine Below.alloc ?_ ?_ _) | (with_reducible refine below_grew ?_ ?_ _) | (with_reducible refine Below.setCell ?_ ?_ _) | (with_reducible refine Below.drew ?_) | (with_reducible refine below_drewN ?_ _) | omega | (simp; done) | (simp; omega))), ?_⟩
    conv => lhs; whnf
    try rfl
  · exact fun _ => rfl
  simp only [List.nil_append, List.cons_append, Nat.reduceAdd]
  simp only [List.nil_append, List.cons_append, Nat.reduceAdd, fillPuts, Act.put, List.setIfInBounds_toArray, List.set_cons_zero, List.set_cons_succ]
  rintro U W hC ⟨h0, h1, h2, ⟨g, h3, hg, hgc⟩, h4, h5, h6, ⟨zb, h7, hz, hzc⟩, h8, -⟩ hF
  have hgz : g ≠ zb := fun e => hF 3 7 rfl rfl (by decide) (by rw [h3, h7, e]; rfl)
  rw [h3] at h8
  simp only [h0, h1, h2, h3, h4, h5, h6, h7, h8]
  clear h0 h1 h2 h3 h4 h5 h6 h7 h8 hF
  have HPW := Lib.hid (HP4.out.keep hC)
  have HBW := Lib.hid (HB4.out.trans (hC.mono HB4.out.size))
  have HGC := Lib.hid hgc
  have HZC := Lib.hid hzc
  have hpg : pb ≠ g := by have := (block_facts HP4.out.st).2.2; omega
  have hog : ob ≠ g := by have := (block_facts HP4.out.ord).2.2; omega
  have htg : some g ≠ tv.ownBlock := fun e => by have := HTV.out _ e.symm; omega
  have hgw : w.heap.size ≤ g := by have := HB4.out.size; omega
  have hzl := (block_facts hzc).2.2
  have h20 : (α : Int) < 20 := by omega
  clear hC hgc hzc HP4 HB4
  go_wp2_with fail
  go_loopw [58] (fun cnt wr => ∃ k : Nat, k ≤ α ∧ cnt = .int .i64 k ∧ Bx g BigT kB (α * 4) (sevens k) wr ∧ Only g W wr) (fun cnt _ => α - (intOf cnt).toNat)
  case atStart => exact ⟨0, by omega, rfl, by
    have h := HGC.out
    unfold Bx at h ⊢
    rw [ag_ext kB (α * 4) (sevens 0) (fun _ => 0) (fun j _ => by unfold sevens; rw [if_neg (by omega)])]
    exact h, Only.refl _ _⟩
  case round =>
    obtain ⟨k, hk, rfl, hbx, ho⟩ := hrel
    by_cases hlt : k < α
    · have hlt' : (k : Int) < (α : Int) := by omega
      have hk0 : (0 : Int) ≤ k := by omega
      have c0 := ag_cell hbx (k * 4) (by omega)
      have f0 := (block_facts hbx).2.1 (k * 4)
      have hgl := (block_facts hbx).2.2
      have hq := ag_store hbx (k * 4) (by omega) 7
      rw [show kB (k * 4) = .i64 from by unfold kB; rw [if_pos (by omega)]] at hq c0
      rw [ag_ext kB (α * 4) _ _ (fun j _ => sevens_step k j)] at hq
      have HQ := Lib.hid hq
      have HOO := Lib.hid (ho.setCell (p := ⟨g, k * 4, none⟩) (.int .i64 7))
      clear hq ho hbx
      go_wp2_with fail
      exact ⟨⟨k + 1, by omega, by go_num, HQ.out, HOO.out⟩, by simp only [intOf]; omega⟩
    · obtain rfl : α = k := by omega
      have hbx2 : Bx g BigT kB (α * 4) (bigF fun _ => (7 * 18446744073709551616, 0)) wr := by
        unfold Bx at hbx ⊢
        rw [← ag_ext kB (α * 4) (sevens α) _ (fun j hj => big_sevens α j (by omega))]
        exact hbx
      have HBG := Lib.hid hbx2
      have hu := Upd.of_only ho
      have HUU := Lib.hid hu
      have HPW2 := Lib.hid (HPW.out.upd hu hpg hog htg)
      have HZW := Lib.hid (HZC.out.only ho (Ne.symm hgz))
      have hss := ho.size
      have hBW2 : Below w.heap.size w wr := HBW.out.trans ⟨hu.os, hu.tape, hu.output, hu.size, fun i hi => hu.block i (by have := HBW.out.size; omega) (by omega)⟩
      have HBW2 := Lib.hid hBW2
      have hzlr : zb < wr.heap.size := by omega
      clear hbx hbx2 ho hu hBW2 HPW HZC HBW HGC
      have e7 : accHi (7 * 18446744073709551616) = 7 := by decide +kernel
      have e7l : accLo (7 * 18446744073709551616) = 0 := by decide +kernel
      have e0 : accHi 0 = 0 := by decide +kernel
      have e0l : accLo 0 = 0 := by decide +kernel
      by_cases h1 : n = α
      · by_cases h2 : n = β
        · subst h1
          subst h2
          have hnn2 : ((n : Int) == (n : Int)) = true := by simp
          have hi := HIP.out g zb pb ob n n tv (List.replicate n (0, 0)) _ wr HPW2.out HBG.out hpg hog htg (fun k hk => by
            rw [List.getD_eq_getElem?_getD, List.getElem?_replicate, if_pos hk]
            exact ⟨ag_cell HZW.out (k * 2) (by omega), ag_cell HZW.out (k * 2 + 1) (by omega)⟩) hzlr (Ne.symm hgz) (fun k hk => by
            rw [List.getD_eq_getElem?_getD, List.getElem?_replicate, if_pos hk]
            unfold In64; simp) (Nat.le_refl _) (by omega) (by simp)
          have hi2 : Calls Tryd.prog 22 #[.pointer (some ⟨pb, 0, none⟩), .slice (some ⟨g, 0, none⟩) n n, .slice (some ⟨zb, 0, none⟩) n n] wr fun e w' => e = .returned (.bool true) ∧ Below w.heap.size w w' ∧ ∀ k, k < n → g < w'.heap.size ∧ w'.cell? ⟨g, k * 4, none⟩ = some (.int .i64 0) ∧ w'.cell? ⟨g, k * 4 + 1, none⟩ = some (.int .u64 0) ∧ w'.cell? ⟨g, k * 4 + 2, none⟩ = some (.int .i64 0) ∧ w'.cell? ⟨g, k * 4 + 3, none⟩ = some (.int .u64 0) := by
            refine hi.mono ?_
            rintro e w' ⟨rfl, hu, hb2⟩
            refine ⟨rfl, HBW2.out.trans ⟨hu.os, hu.tape, hu.output, hu.size, fun i hi => hu.block i (by have := HBW2.out.size; omega) (by omega)⟩, fun k hk => ?_⟩
            obtain ⟨a0, a1, a2, a3⟩ := bigW_cells hb2 k hk
            rw [sumTo_zero t _ k n (fun j hj => by rw [List.getD_eq_getElem?_getD, List.getElem?_replicate, if_pos hj]; rfl)] at a0 a1 a2 a3
            simp only [e0, e0l] at a0 a1 a2 a3
            exact ⟨(block_facts hb2).2.2, a0, a1, a2, a3⟩
          have HI := Lib.hid hi2
          clear hi hi2
          go_wp2_with fail
          refine HI.out.mono ?_
          rintro e w5 ⟨rfl, hbb, hzz⟩
          have HB5 := Lib.hid hbb
          have HC5 := Lib.hid hzz
          clear hbb hzz
          go_wp2_with fail
          go_loopw [85] (fun cnt wr => ∃ k : Nat, k ≤ n ∧ cnt = .int .i64 k ∧ Below w5.heap.size w5 wr) (fun cnt _ => n - (intOf cnt).toNat)
          case atStart => exact ⟨0, by omega, rfl, Below.refl _ _⟩
          case round =>
            obtain ⟨k, hk, rfl, hbx⟩ := hrel
            by_cases hlt : k < n
            · have hlt' : (k : Int) < (n : Int) := by omega
              have hk0 : (0 : Int) ≤ k := by omega
              obtain ⟨hgl, q0, q1, q2, q3⟩ := HC5.out k hlt
              have c0 := (cell_of_block (hbx.block g hgl) _).trans q0
              have c1 := (cell_of_block (hbx.block g hgl) _).trans q1
              have c2 := (cell_of_block (hbx.block g hgl) _).trans q2
              have c3 := (cell_of_block (hbx.block g hgl) _).trans q3
              have HBX := Lib.hid hbx
              clear hbx q0 q1 q2 q3
              go_wp2_with fail
              exact ⟨⟨k + 1, by omega, by go_num, HBX.out⟩, by simp only [intOf]; omega⟩
            · have hlt' : ¬ (k : Int) < (n : Int) := by omega
              have HBX := Lib.hid (HB5.out.trans (hbx.mono HB5.out.size))
              clear hbx
              go_wp2_with fail
              go_ret
              exact ⟨rfl, HBX.out⟩
        · subst h1
          have hnn2 : ((n : Int) == (n : Int)) = true := by simp
          have hnb : ((β : Int) == (n : Int)) = false := beq_eq_false_iff_ne.mpr (by omega)
          have hi := into_short pb n n β n β (some ⟨ob, 0, none⟩) (some ⟨g, 0, none⟩) (some ⟨zb, 0, none⟩) (by omega) wr (by rw [(block_facts HPW2.out.st).1, HNN.out]; rfl) (fun e => h2 e.2.symm)
          have hi2 : Calls Tryd.prog 22 #[.pointer (some ⟨pb, 0, none⟩), .slice (some ⟨g, 0, none⟩) n n, .slice (some ⟨zb, 0, none⟩) β β] wr fun e w' => e = .returned (.bool false) ∧ Below w.heap.size w w' ∧ ∀ k, k < n → g < w'.heap.size ∧ w'.cell? ⟨g, k * 4, none⟩ = some (.int .i64 7) ∧ w'.cell? ⟨g, k * 4 + 1, none⟩ = some (.int .u64 0) ∧ w'.cell? ⟨g, k * 4 + 2, none⟩ = some (.int .i64 0) ∧ w'.cell? ⟨g, k * 4 + 3, none⟩ = some (.int .u64 0) := by
            refine hi.mono ?_
            rintro e w' ⟨rfl, hbb⟩
            refine ⟨rfl, HBW2.out.trans (hbb.mono HBW2.out.size), fun k hk => ?_⟩
            have hb2 : BigW g n (fun _ => (7 * 18446744073709551616, 0)) w' := HBG.out.keep hbb
            obtain ⟨a0, a1, a2, a3⟩ := bigW_cells hb2 k hk
            simp only [e7, e7l, e0, e0l] at a0 a1 a2 a3
            exact ⟨(block_facts hb2).2.2, a0, a1, a2, a3⟩
          have HI := Lib.hid hi2
          clear hi hi2
          go_wp2_with fail
          refine HI.out.mono ?_
          rintro e w5 ⟨rfl, hbb, hzz⟩
          have HB5 := Lib.hid hbb
          have HC5 := Lib.hid hzz
          clear hbb hzz
          go_wp2_with fail
          go_loopw [85] (fun cnt wr => ∃ k : Nat, k ≤ n ∧ cnt = .int .i64 k ∧ Below w5.heap.size w5 wr) (fun cnt _ => n - (intOf cnt).toNat)
          case atStart => exact ⟨0, by omega, rfl, Below.refl _ _⟩
          case round =>
            obtain ⟨k, hk, rfl, hbx⟩ := hrel
            by_cases hlt : k < n
            · have hlt' : (k : Int) < (n : Int) := by omega
              have hk0 : (0 : Int) ≤ k := by omega
              obtain ⟨hgl, q0, q1, q2, q3⟩ := HC5.out k hlt
              have c0 := (cell_of_block (hbx.block g hgl) _).trans q0
              have c1 := (cell_of_block (hbx.block g hgl) _).trans q1
              have c2 := (cell_of_block (hbx.block g hgl) _).trans q2
              have c3 := (cell_of_block (hbx.block g hgl) _).trans q3
              have HBX := Lib.hid hbx
              clear hbx q0 q1 q2 q3
              go_wp2_with fail
              exact ⟨⟨k + 1, by omega, by go_num, HBX.out⟩, by simp only [intOf]; omega⟩
            · have hlt' : ¬ (k : Int) < (n : Int) := by omega
              have HBX := Lib.hid (HB5.out.trans (hbx.mono HB5.out.size))
              clear hbx
              go_wp2_with fail
              go_ret
              exact ⟨rfl, HBX.out⟩
      · have hna : ((α : Int) == (n : Int)) = false := beq_eq_false_iff_ne.mpr (by omega)
        have hi := into_short pb n α β α β (some ⟨ob, 0, none⟩) (some ⟨g, 0, none⟩) (some ⟨zb, 0, none⟩) (by omega) wr (by rw [(block_facts HPW2.out.st).1, HNN.out]; rfl) (fun e => h1 e.1.symm)
        have hi2 : Calls Tryd.prog 22 #[.pointer (some ⟨pb, 0, none⟩), .slice (some ⟨g, 0, none⟩) α α, .slice (some ⟨zb, 0, none⟩) β β] wr fun e w' => e = .returned (.bool false) ∧ Below w.heap.size w w' ∧ ∀ k, k < α → g < w'.heap.size ∧ w'.cell? ⟨g, k * 4, none⟩ = some (.int .i64 7) ∧ w'.cell? ⟨g, k * 4 + 1, none⟩ = some (.int .u64 0) ∧ w'.cell? ⟨g, k * 4 + 2, none⟩ = some (.int .i64 0) ∧ w'.cell? ⟨g, k * 4 + 3, none⟩ = some (.int .u64 0) := by
          refine hi.mono ?_
          rintro e w' ⟨rfl, hbb⟩
          refine ⟨rfl, HBW2.out.trans (hbb.mono HBW2.out.size), fun k hk => ?_⟩
          have hb2 : BigW g α (fun _ => (7 * 18446744073709551616, 0)) w' := HBG.out.keep hbb
          obtain ⟨a0, a1, a2, a3⟩ := bigW_cells hb2 k hk
          simp only [e7, e7l, e0, e0l] at a0 a1 a2 a3
          exact ⟨(block_facts hb2).2.2, a0, a1, a2, a3⟩
        have HI := Lib.hid hi2
        clear hi hi2
        go_wp2_with fail
        refine HI.out.mono ?_
        rintro e w5 ⟨rfl, hbb, hzz⟩
        have HB5 := Lib.hid hbb
        have HC5 := Lib.hid hzz
        clear hbb hzz
        go_wp2_with fail
        go_loopw [85] (fun cnt wr => ∃ k : Nat, k ≤ α ∧ cnt = .int .i64 k ∧ Below w5.heap.size w5 wr) (fun cnt _ => α - (intOf cnt).toNat)
        case atStart => exact ⟨0, by omega, rfl, Below.refl _ _⟩
        case round =>
          obtain ⟨k, hk, rfl, hbx⟩ := hrel
          by_cases hlt : k < α
          · have hlt' : (k : Int) < (α : Int) := by omega
            have hk0 : (0 : Int) ≤ k := by omega
            obtain ⟨hgl, q0, q1, q2, q3⟩ := HC5.out k hlt
            have c0 := (cell_of_block (hbx.block g hgl) _).trans q0
            have c1 := (cell_of_block (hbx.block g hgl) _).trans q1
            have c2 := (cell_of_block (hbx.block g hgl) _).trans q2
            have c3 := (cell_of_block (hbx.block g hgl) _).trans q3
            have HBX := Lib.hid hbx
            clear hbx q0 q1 q2 q3
            go_wp2_with fail
            exact ⟨⟨k + 1, by omega, by go_num, HBX.out⟩, by simp only [intOf]; omega⟩
          · have hlt' : ¬ (k : Int) < (α : Int) := by omega
            have HBX := Lib.hid (HB5.out.trans (hbx.mono HB5.out.size))
            clear hbx
            go_wp2_with fail
            go_ret
            exact ⟨rfl, HBX.out⟩
theorem plans_any (n a b : Int) (w : World) (ha : 0 ≤ a ∧ a ≤ 255) (hb : 0 ≤ b ∧ b ≤ 255) (hT : CosW w) :
    Calls Tryd.prog 3 #[.int .i64 n, .int .u8 a, .int .u8 b] w fun e w' => e = .returned (.bool true) ∧ Below w.heap.size w w' := by
  rcases plan_or n with ⟨s, hs, rfl, hst⟩ | ⟨h1, h2⟩
  · exact plans_some s hs _ rfl hst a b w ha hb hT
  · exact plans_none n a b h1 h2 w hT
end Go.Proofs.YtcibajleknhklaaDoor
end

section
namespace Go
open Go.RowKit Go.ChangeShapes Go.WideShapes
/-- All arguments read again. -/
theorem trodAll_below {H : Type} {enc : TypeId × Value → H} {P : Program} (hl : laidOutB P = true) {W W' : World} (hb : Below W.heap.size W W') :
    ∀ (ts : List TypeId) (vs : List Value) (ds : List (DataW H)) (ps : List MemPlace), (ts.all fun t => P.readableRec t && decide (t < P.types.size)) = true →
      DataW.TrodAll enc P W 0 (fun _ => true) true ts vs ds ps → (∀ x ∈ ps, x.block < W.heap.size) → DataW.TrodAll enc P W' 0 (fun b => decide (b < W.heap.size)) true ts vs ds ps
  | [], vs, ds, ps, _, h, _ => by
    obtain ⟨rfl, rfl, rfl⟩ := trodAll_nil h
    exact trodAll_mk0
  | t :: ts, vs, ds, ps, hr, h, hlt => by
    simp only [List.all_cons, Bool.and_eq_true, decide_eq_true_eq] at hr
    obtain ⟨v, vs', d, ds', p, q, rfl, rfl, rfl, h1, h2⟩ := trodAll_cons h
    exact trodAll_cons_mk (Below.trod hl hr.1.1 hr.1.2 h1 hb (fun x hx => hlt x (List.mem_append_left _ hx))) (trodAll_below hl hb ts vs' ds' q hr.2 h2 (fun x hx => hlt x (List.mem_append_right _ hx)))
end Go
end

section
namespace Go.Proofs.YtcibajleknhklaaDoor
open Go.RowKit
theorem cosines_of {W : World} {rest : List (String × DataW Unit)} (h : laidMet Tryd.prog (("spinet/cis.cosines", Rows.laid_spinet_cis_cosines) :: rest) W) : CosW W := by
  have hT := Lib.tabIs_of_head (P := Tryd.prog) (g := 0) (t := 207) (e := 2) (n := 65) (k := .i64) (zs := cosL) (by kernel_rfl) (by kernel_rfl) Tryd.underlying207 Tryd.underlying2 (by kernel_rfl) (by kernel_rfl) h
  have hc := fun i hi => hT.cell (g := 0) (by kernel_rfl) i hi
  exact ⟨World.block_lt_of_cell? W ⟨0, 0, none⟩ (hc 0 (by decide)), hc⟩
end Go.Proofs.YtcibajleknhklaaDoor
end

section
namespace Go.Proofs.YtcibajleknhklaaDoor
open Go.ChangeShapes Go.WideShapes Go.ChangeAt Go.WideMaps Go.WideElems Go.RowKit
set_option maxRecDepth 100000 in
theorem fftPlans_lifted (os : Os) (started : os.Started) (H : Type) (enc : TypeId × Value → H) :
    ReturnsInHanded {} Tryd.checked os 3 .any (fun w args => (Rows.fftPlansSpec.pre enc Tryd.prog Tryd.f3 [] false w args ∧ laidMetH Tryd.prog Rows.fftPlansRow.laid w) ∧ sizedMet enc Tryd.prog Tryd.f3 (OpenSpec.ofChange Rows.fftPlansSpec) false w args)
      (Rows.fftPlansSpec.post enc Tryd.prog Tryd.f3 false true false false) := by
  refine returnsInHanded_of_change_and (C := Tryd.checked) (X := fun w _ => laidMetH Tryd.prog Rows.fftPlansRow.laid w) (fun _ _ _ hh h => h.of_heap hh) (by kernel_rfl) started (by kernel_rfl) Tryd.func3
    (ChangeSpec.witness_shaped (enc := enc) (C := Tryd.checked) (os := os) (X := fun w _ => laidMetH Tryd.prog Rows.fftPlansRow.laid w) false (World.doorLaid Tryd.prog 400 os) #[.int .i64 0, .int .u8 0, .int .u8 0] 8 rfl (World.shaped_of_RefB (by kernel_rfl) (by kernel_rfl)) (by kernel_rfl) (by kernel_rfl) (by kernel_rfl)
      (laidMetH_of_parts3 (fuel := 8) (laidMet_of_run' 8 (by kernel_rfl) (by kernel_rfl)) (by kernel_rfl) (by kernel_rfl))) ?_
  intro W base args ds gs before hval0 hW _ _ hL _
  have hval : ∀ (j : Nat) t v, Tryd.f3.params[j]? = some t → args[j]? = some v → Value.okWide Tryd.prog W .any base t v := hval0
  have hW' := hW
  obtain ⟨p, q, hA0, hV, rfl, hfz, hnd⟩ := hW
  have hA : DataW.TrodAll enc Tryd.prog W 0 (fun _ => true) true Tryd.f3.params.toList args.toList ds p := hA0
  have hA2 := hA
  rw [Tryd.params3] at hA hval
  obtain ⟨v0, v1, v2, d0, d1, d2, p0, p1, p2, rfl, rfl, hp, h0, h1, h2⟩ := trodAll_three hA
  obtain ⟨rfl, rfl⟩ := trodVars_none hV
  obtain ⟨n, rfl, rfl, hp0, wn⟩ := open_int Tryd.underlying3 (hval 0 3 v0 rfl rfl) h0
  obtain ⟨a, rfl, rfl, hp1, wa⟩ := open_int Tryd.underlying5 (hval 1 5 v1 rfl rfl) h1
  obtain ⟨b, rfl, rfl, hp2, wb⟩ := open_int Tryd.underlying5 (hval 2 5 v2 rfl rfl) h2
  rw [MakeChecks.laidMetH_plain _ _ _ (by kernel_rfl)] at hL
  have hT : CosW W := cosines_of hL
  simp only [List.append_nil] at hW'
  refine (plans_any n a b W (wf_u8 wa) (wf_u8 wb) hT).mono fun e W' ⟨he, hb⟩ => ?_
  subst he
  have e1 : Rows.fftPlansSpec.fn H ([.lit (.int .i64 n), .lit (.int .u8 a), .lit (.int .u8 b)] ++ []) = { results := [.lit (.bool true)], args := [.lit (.int .i64 n), .lit (.int .u8 a), .lit (.int .u8 b)] } := by simp [Rows.fftPlansSpec]
  refine ⟨_, rfl, _, _, _, [], p, [], hW', ?_, ?_, ?_, hb.frame _, fun h => by cases h⟩
  · rw [e1]; exact trodAll_mk1 (shut_bool Tryd.underlying4 _)
  · rw [e1]; exact trodAll_below (by kernel_rfl) hb _ _ _ _ (by kernel_rfl) hA2 (fun x hx => by simpa using hW'.lt x (by simpa using hx))
  · rw [e1]; rfl
theorem fftPlans_holds : Rows.FftPlansSaid :=
  OpenClaim.holds_of_wide 3 Tryd.f3 rfl rfl rfl rfl rfl rfl rfl ⟨rfl, rfl, rfl, rfl, rfl⟩ rfl rfl rfl rfl rfl (by kernel_rfl) Tryd.func3 (by kernel_rfl)
    (of_decide_eq_true (by kernel_rfl)) (by unfold Func.isWrapper; rw [if_neg (of_decide_eq_false (by kernel_rfl))]; exact ⟨rfl, rfl⟩)
    (fun os started H enc _ => fftPlans_lifted os started H enc)
theorem fftPlans_card : Rows.FftPlansCardSaid :=
  Claim7.holds_tied_plain_at .later [] [.data] true (true, "ae348317897b4f8711de699b2180ffb779772e4703cfa942f657876935132cc0") false
    fftPlans_holds (fun _ h => by cases h) (by kernel_rfl) (fun _ h => by cases h) fftPlans_row_tie rfl ⟨rfl, rfl⟩ (by kernel_rfl) rfl
    (fun f fn hf hfn => by
      obtain rfl : f = 3 := Option.some.inj ((show Tryd.prog.funcNamed "spinet/spinetlaw21.FftPlans" = some 3 by kernel_rfl).symm.trans hf) |>.symm
      obtain rfl : fn = Tryd.f3 := (Option.some.inj (Tryd.func3.symm.trans hfn)).symm
      exact ⟨by kernel_rfl, fun j t ht => by
        rw [Tryd.params3] at ht
        have hm : t ∈ [3, 5, 5] := by simpa using Array.mem_of_getElem? ht
        have hall : ([3, 5, 5].all fun u => !Tryd.prog.wantsStandIn u) = true := by kernel_rfl
        exact (show Tryd.prog.wantsStandIn t = false by simpa using List.all_eq_true.1 hall t (by simpa using hm))⟩)
    (by kernel_rfl)
end Go.Proofs.YtcibajleknhklaaDoor
end

