/-
  spinetlaw16.awake.
  (One text out of these parts: SymR, JobR, HeadR, Mode, ReadR, ReadS, Vec, Idx, Tab, TabV, CostP, Len, SheetW, Sheet, Book, BookV, CostB, ShareW, Total, AllocF, ShareA, ShareN, ToolQ, Awake16.)
-/
import Derived.Test.YtbcdnbbpkikppaaDoorFgub
import Derived.Handy
import Derived.Test.YtbcdnbbpkikppaaDoorProg
import Derived.KernelRfl
import Derived.Laws.PanicsMore
import Derived.StillTailTactics
import Derived.Deep.MidRow
import Derived.Lib.BitFns
import Derived.Laws.Externs
import Derived.Test.YtbcdnbbpkikppaaDoorShelf
import Derived.BigQuiet
import Derived.Great.BuildSlice
section
namespace Go.Proofs.YtbcdnbbpkikppaaDoor
open Go.RowKit Go.BigFrame
set_option linter.unusedSimpArgs false
set_option linter.unusedVariables false
set_option maxHeartbeats 1000000 in
/-- No raw bits. -/
theorem rdRaw0 (c : RC) (w : World) : Calls Tryd.prog 138 #[.pointer (some ⟨c.rb, 0, none⟩), .int .i64 0] w fun e w' => e = .returned (.int .u32 0) ∧ Below w.heap.size w w' := by
  go_enter Tryd.func138, Tryd.ntmps138
  go_wp2_with fail
  go_loopw [5, 6, 7, 11] (fun v5 v6 v7 cnt wr => v5 = .int .u32 0 ∧ cnt = .int .i64 0 ∧ Below w.heap.size w wr) (fun _ _ _ _ _ => 0)
  case atStart => exact ⟨rfl, rfl, by (repeat' (first | (with_reducible exact Below.refl _ _) | (with_reducible assumption) | (with_reducible refine Below.alloc ?_ ?_ _) | (with_reducible refine below_grew ?_ ?_ _) | (with_reducible refine Below.setCell ?_ ?_ _) | (with_reducible refine Below.drew ?_) | (with_reducible refine below_drewN ?_ _) | omega | (simp; done) | (simp; omega)))⟩
  case round =>
    obtain ⟨rfl, rfl, hb⟩ := hrel
    go_wp2_with fail
    go_ret
    exact ⟨rfl, hb⟩
theorem getF_bd (s : RS) (hok : RsOk s) (t : Int) (ht : 1 ≤ t ∧ t ≤ 4096) : 0 ≤ getF s t ∧ getF s t < t := by
  obtain ⟨p1, p2, -⟩ := part_bd s.rng t hok.r0 hok.r1 ht.1 ht.2
  have := Int.ediv_nonneg hok.v0 (show 0 ≤ s.rng / t by omega)
  unfold getF
  rw [if_pos ht]
  omega
/-- A symbol. -/
def oneS (c : RC) (s : RS) (t : Int) : RS := takeF c s (getF s t) (getF s t + 1) t
set_option maxHeartbeats 1000000 in
set_option maxRecDepth 100000 in
theorem rdOne (c : RC) (s : RS) (hok : RsOk s) (t : Int) (ht : 1 ≤ t ∧ t ≤ 4096) (w : World) (h : RdAt c s w) (hk : s.taken ≤ 900000) (hn : c.n ≤ 1000000) :
    Calls Tryd.prog 99 #[.pointer (some ⟨c.rb, 0, none⟩), .int .i64 t] w fun e w' => e = .returned (.int .i64 (getF s t)) ∧ RdAt c (oneS c s t) w' ∧ Chg [c.rb] w w' := by
  have hg := Lib.hid (fun w h => rdGet c s hok t w h)
  have hbd := getF_bd s hok t ht
  have htk := Lib.hid (fun w h => rdTake c s hok (getF s t) (getF s t + 1) t w h hk hn)
  have HO := Lib.hid (show oneS c s t = takeF c s (getF s t) (getF s t + 1) t from rfl)
  rw [HO.out]
  have H := Lib.hid h
  obtain ⟨t1, t2⟩ := ht
  obtain ⟨g, hgg⟩ : ∃ g, getF s t = g := ⟨_, rfl⟩
  rw [hgg] at hg hbd htk ⊢
  obtain ⟨b0, b1⟩ := hbd
  clear h hgg HO
  go_enter Tryd.func99, Tryd.ntmps99
  go_wp2_with fail
  refine (hg.out _ H.out).mono ?_
  rintro e w1 ⟨rfl, hb1⟩
  have H1 := Lib.hid (H.out.keep0 hb1)
  have C1 := Lib.hid (Chg.of_below (l := [c.rb]) hb1)
  clear hb1 H hg
  go_wp2_with fail
  refine (htk.out _ H1.out).mono ?_
  rintro e w2 ⟨rfl, hr, hc⟩
  have H2 := Lib.hid hr
  have C2 := Lib.hid (C1.out.trans hc)
  clear hr hc H1 C1 htk
  go_wp2_with fail
  go_ret
  exact ⟨rfl, H2.out, C2.out⟩
set_option maxHeartbeats 1000000 in
theorem partsSmall (t : Int) (ht : t ≤ 256) (w : World) : Calls Tryd.prog 98 #[.int .i64 t] w fun e w' => e = .returned (.tuple #[.int .i64 t, .int .i64 0]) ∧ Below w.heap.size w w' := by
  go_enter Tryd.func98, Tryd.ntmps98
  go_wp2_with fail
  refine bodyPost_ret (v := _) (by simp [results, Tryd.results98, go_sem]; rfl) rfl ⟨?_, ?_⟩
  · rfl
  · (repeat' (first | (with_reducible exact Below.refl _ _) | (with_reducible assumption) | (with_reducible refine Below.alloc ?_ ?_ _) | (with_reducible refine below_grew ?_ ?_ _) | (with_reducible refine Below.setCell ?_ ?_ _) | (with_reducible refine Below.drew ?_) | (with_reducible refine below_drewN ?_ _) | omega | (simp; done) | (simp; omega)))
theorem or_zero (a : Int) (h0 : 0 ≤ a) (h1 : a < 9223372036854775808) : bits .or .i64 a 0 = a := by
  have := or_i64 0 a 0 h0 (by omega) (by omega) (by omega)
  simpa using this
set_option maxHeartbeats 2000000 in
set_option maxRecDepth 100000 in
/-- A number of few. -/
theorem rdUint (c : RC) (s : RS) (hok : RsOk s) (t : Int) (ht : 1 ≤ t ∧ t ≤ 256) (w : World) (h : RdAt c s w) (hk : s.taken ≤ 900000) (hn : c.n ≤ 1000000) :
    Calls Tryd.prog 78 #[.pointer (some ⟨c.rb, 0, none⟩), .int .i64 t] w fun e w' => e = .returned (.tuple #[.int .i64 (getF s t), .bool true]) ∧ RdAt c (oneS c s t) w' ∧ Chg [c.rb] w w' := by
  have hps := Lib.hid (fun w => partsSmall t ht.2 w)
  have hbd := getF_bd s hok t (by omega)
  have hon := Lib.hid (fun w h => rdOne c s hok t (by omega) w h hk hn)
  have hr0 := Lib.hid (fun w => rdRaw0 c w)
  have H := Lib.hid h
  obtain ⟨t1, t2⟩ := ht
  obtain ⟨g, hgg⟩ : ∃ g, getF s t = g := ⟨_, rfl⟩
  rw [hgg] at hon hbd ⊢
  obtain ⟨b0, b1⟩ := hbd
  obtain ⟨s1, hs1⟩ : ∃ s1, oneS c s t = s1 := ⟨_, rfl⟩
  rw [hs1] at hon ⊢
  clear h hgg hs1
  go_enter Tryd.func78, Tryd.ntmps78
  go_wp2_with fail
  refine (hps.out _).mono ?_
  rintro e w1 ⟨rfl, hb1⟩
  go_upto_region 4 with fail
  refine cut_world (fun W => RdAt c s W ∧ Chg [c.rb] w W) ⟨H.out.keep0 hb1, Chg.of_below hb1⟩ ?_
  clear hb1 H hps
  rintro V ⟨hR, hC⟩
  have HR4 := Lib.hid hR
  have HC4 := Lib.hid hC
  have hl := hR.lt
  clear hR hC
  have HF := Lib.hid (fun (b : Bool) W (hp : RdAt c (if b = true then s1 else s) W) => (show True from trivial))
  have HPD := Lib.hid (fun (b : Bool) W W' (hb : Below W.heap.size W W') (hp : RdAt c (if b = true then s1 else s) W) => hp.keep0 hb)
  refine region_one [c.rb] 2 11 (fun b W => RdAt c (if b = true then s1 else s) W) (by kernel_rfl) (by kernel_rfl) HR4.out (fun W h => h.keep0 (Below.refl _ _).drew) HPD.out ?_
  simp only [List.take_succ_cons, List.take_zero, List.drop_succ_cons, List.drop_zero]
  refine RI.wpInv_det (by kernel_rfl) (by kernel_rfl) ?_
  apply Exists.intro
  refine ⟨?_, ?_, ?_⟩
  · rintro D U W hDi ⟨hC, hP⟩ hH
    have hF := HF.out _ W hP
    simp only [HypsU, predsOf, Region.binds, List.filterMap_cons, List.filterMap_nil, if_true, List.nil_append, List.cons_append, List.getD_cons_zero, List.getD_cons_succ] at hH
    simp only [fillPuts, Act.put, List.setIfInBounds_toArray, List.set_cons_zero, List.set_cons_succ, Nat.reduceAdd]
    go_wp2_with fail
    refine ⟨rfl, rfl, (show Below W.heap.size W _ from by (repeat' (first | (with_reducible exact Below.refl _ _) | (with_reducible assumption) | (with_reducible refine Below.alloc ?_ ?_ _) | (with_reducible refine below_grew ?_ ?_ _) | (with_reducible refine Below.setCell ?_ ?_ _) | (with_reducible refine Below.drew ?_) | (with_reducible refine below_drewN ?_ _) | omega | (simp; done) | (simp; omega)))), ?_⟩
    conv => lhs; whnf
    try rfl
  · exact fun _ => rfl
  simp only [List.nil_append, List.cons_append, Nat.reduceAdd]
  refine RI.wpInv_det (by kernel_rfl) (by kernel_rfl) ?_
  apply Exists.intro
  refine ⟨?_, ?_, ?_⟩
  · rintro D U W hDi ⟨hC, hP⟩ hH
    have hF := HF.out _ W hP
    simp only [HypsU, predsOf, Region.binds, List.filterMap_cons, List.filterMap_nil, if_true, List.nil_append, List.cons_append, List.getD_cons_zero, List.getD_cons_succ] at hH
    simp only [fillPuts, Act.put, List.setIfInBounds_toArray, List.set_cons_zero, List.set_cons_succ, Nat.reduceAdd]
    go_wp2_with fail
    refine ⟨rfl, rfl, (show Below W.heap.size W _ from by (repeat' (first | (with_reducible exact Below.refl _ _) | (with_reducible assumption) | (with_reducible refine Below.alloc ?_ ?_ _) | (with_reducible refine below_grew ?_ ?_ _) | (with_reducible refine Below.setCell ?_ ?_ _) | (with_reducible refine Below.drew ?_) | (with_reducible refine below_drewN ?_ _) | omega | (simp; done) | (simp; omega)))), ?_⟩
    conv => lhs; whnf
    try rfl
  · exact fun _ => rfl
  simp only [List.nil_append, List.cons_append, Nat.reduceAdd]
  refine RI.wpInv_det (by kernel_rfl) (by kernel_rfl) ?_
  apply Exists.intro
  refine ⟨?_, ?_, ?_⟩
  · rintro D U W hDi ⟨hC, hP⟩ hH
    rw [hDi] at hP
    simp only [HypsU, predsOf, Region.binds, List.filterMap_cons, List.filterMap_nil, if_true, List.nil_append, List.cons_append, List.getD_cons_zero, List.getD_cons_succ] at hH
    simp only [fillPuts, Act.put, List.setIfInBounds_toArray, List.set_cons_zero, List.set_cons_succ, Nat.reduceAdd]
    (try simp only [hH]); go_wp2_with fail; refine (hon.out W hP).mono ?_; rintro e2 w' ⟨rfl, hp1, hg1⟩; go_wp2_with fail
    refine ⟨rfl, rfl, (show Chg _ _ _ ∧ _ from ⟨hg1, hp1⟩), ?_⟩
    conv => lhs; whnf
    try rfl
  · exact fun _ => rfl
  simp only [List.nil_append, List.cons_append, Nat.reduceAdd]
  refine RI.wpInv_det (by kernel_rfl) (by kernel_rfl) ?_
  apply Exists.intro
  refine ⟨?_, ?_, ?_⟩
  · rintro D U W hDi ⟨hC, hP⟩ hH
    have hF := HF.out _ W hP
    simp only [HypsU, predsOf, Region.binds, List.filterMap_cons, List.filterMap_nil, if_true, List.nil_append, List.cons_append, List.getD_cons_zero, List.getD_cons_succ] at hH
    simp only [fillPuts, Act.put, List.setIfInBounds_toArray, List.set_cons_zero, List.set_cons_succ, Nat.reduceAdd]
    go_wp2_with fail
    refine ⟨rfl, rfl, (show Below W.heap.size W _ from by (repeat' (first | (with_reducible exact Below.refl _ _) | (with_reducible assumption) | (with_reducible refine Below.alloc ?_ ?_ _) | (with_reducible refine below_grew ?_ ?_ _) | (with_reducible refine Below.setCell ?_ ?_ _) | (with_reducible refine Below.drew ?_) | (with_reducible refine below_drewN ?_ _) | omega | (simp; done) | (simp; omega)))), ?_⟩
    conv => lhs; whnf
    try rfl
  · exact fun _ => rfl
  simp only [List.nil_append, List.cons_append, Nat.reduceAdd]
  refine RI.wpInv_det (by kernel_rfl) (by kernel_rfl) ?_
  apply Exists.intro
  refine ⟨?_, ?_, ?_⟩
  · rintro D U W hDi ⟨hC, hP⟩ hH
    have hF := HF.out _ W hP
    simp only [HypsU, predsOf, Region.binds, List.filterMap_cons, List.filterMap_nil, if_true, List.nil_append, List.cons_append, List.getD_cons_zero, List.getD_cons_succ] at hH
    simp only [fillPuts, Act.put, List.setIfInBounds_toArray, List.set_cons_zero, List.set_cons_succ, Nat.reduceAdd]
    (try simp only [hH]); go_wp2_with fail
    refine ⟨rfl, rfl, (show Below W.heap.size W _ from by (repeat' (first | (with_reducible exact Below.refl _ _) | (with_reducible assumption) | (with_reducible refine Below.alloc ?_ ?_ _) | (with_reducible refine below_grew ?_ ?_ _) | (with_reducible refine Below.setCell ?_ ?_ _) | (with_reducible refine Below.drew ?_) | (with_reducible refine below_drewN ?_ _) | omega | (simp; done) | (simp; omega)))), ?_⟩
    conv => lhs; whnf
    try rfl
  · exact fun _ => rfl
  simp only [List.nil_append, List.cons_append, Nat.reduceAdd]
  refine RI.wpInv_det (by kernel_rfl) (by kernel_rfl) ?_
  apply Exists.intro
  refine ⟨?_, ?_, ?_⟩
  · rintro D U W hDi ⟨hC, hP⟩ hH
    have hF := HF.out _ W hP
    simp only [HypsU, predsOf, Region.binds, List.filterMap_cons, List.filterMap_nil, if_true, List.nil_append, List.cons_append, List.getD_cons_zero, List.getD_cons_succ] at hH
    simp only [fillPuts, Act.put, List.setIfInBounds_toArray, List.set_cons_zero, List.set_cons_succ, Nat.reduceAdd]
    go_wp2_with fail
    refine ⟨rfl, rfl, (show Below W.heap.size W _ from by (repeat' (first | (with_reducible exact Below.refl _ _) | (with_reducible assumption) | (with_reducible refine Below.alloc ?_ ?_ _) | (with_reducible refine below_grew ?_ ?_ _) | (with_reducible refine Below.setCell ?_ ?_ _) | (with_reducible refine Below.drew ?_) | (with_reducible refine below_drewN ?_ _) | omega | (simp; done) | (simp; omega)))), ?_⟩
    conv => lhs; whnf
    try rfl
  · exact fun _ => rfl
  simp only [List.nil_append, List.cons_append, Nat.reduceAdd]
  refine RI.wpInv_det (by kernel_rfl) (by kernel_rfl) ?_
  apply Exists.intro
  refine ⟨?_, ?_, ?_⟩
  · rintro D U W hDi ⟨hC, hP⟩ hH
    have hF := HF.out _ W hP
    simp only [HypsU, predsOf, Region.binds, List.filterMap_cons, List.filterMap_nil, if_true, List.nil_append, List.cons_append, List.getD_cons_zero, List.getD_cons_succ] at hH
    simp only [fillPuts, Act.put, List.setIfInBounds_toArray, List.set_cons_zero, List.set_cons_succ, Nat.reduceAdd]
    (try simp only [hH]); go_wp2_with fail
    refine ⟨rfl, rfl, (show Below W.heap.size W _ from by (repeat' (first | (with_reducible exact Below.refl _ _) | (with_reducible assumption) | (with_reducible refine Below.alloc ?_ ?_ _) | (with_reducible refine below_grew ?_ ?_ _) | (with_reducible refine Below.setCell ?_ ?_ _) | (with_reducible refine Below.drew ?_) | (with_reducible refine below_drewN ?_ _) | omega | (simp; done) | (simp; omega)))), ?_⟩
    conv => lhs; whnf
    try rfl
  · exact fun _ => rfl
  simp only [List.nil_append, List.cons_append, Nat.reduceAdd]
  refine RI.wpInv_det (by kernel_rfl) (by kernel_rfl) ?_
  apply Exists.intro
  refine ⟨?_, ?_, ?_⟩
  · rintro D U W hDi ⟨hC, hP⟩ hH
    have hF := HF.out _ W hP
    simp only [HypsU, predsOf, Region.binds, List.filterMap_cons, List.filterMap_nil, if_true, List.nil_append, List.cons_append, List.getD_cons_zero, List.getD_cons_succ] at hH
    simp only [fillPuts, Act.put, List.setIfInBounds_toArray, List.set_cons_zero, List.set_cons_succ, Nat.reduceAdd]
    go_wp2_with fail
    refine ⟨rfl, rfl, (show Below W.heap.size W _ from by (repeat' (first | (with_reducible exact Below.refl _ _) | (with_reducible assumption) | (with_reducible refine Below.alloc ?_ ?_ _) | (with_reducible refine below_grew ?_ ?_ _) | (with_reducible refine Below.setCell ?_ ?_ _) | (with_reducible refine Below.drew ?_) | (with_reducible refine below_drewN ?_ _) | omega | (simp; done) | (simp; omega)))), ?_⟩
    conv => lhs; whnf
    try rfl
  · exact fun _ => rfl
  simp only [List.nil_append, List.cons_append, Nat.reduceAdd]
  refine RI.wpInv_det (by kernel_rfl) (by kernel_rfl) ?_
  apply Exists.intro
  refine ⟨?_, ?_, ?_⟩
  · rintro D U W hDi ⟨hC, hP⟩ hH
    have hF := HF.out _ W hP
    simp only [HypsU, predsOf, Region.binds, List.filterMap_cons, List.filterMap_nil, if_true, List.nil_append, List.cons_append, List.getD_cons_zero, List.getD_cons_succ] at hH
    simp only [fillPuts, Act.put, List.setIfInBounds_toArray, List.set_cons_zero, List.set_cons_succ, Nat.reduceAdd]
    (try simp only [hH]); go_wp2_with fail; refine (hr0.out _).mono ?_; rintro e w' ⟨rfl, hb1⟩; obtain ⟨x1, rfl⟩ := below_as_grew hb1; clear hb1; go_wp2_with fail
    refine ⟨rfl, rfl, (show Below W.heap.size W _ from by (repeat' (first | (with_reducible exact Below.refl _ _) | (with_reducible assumption) | (with_reducible refine Below.alloc ?_ ?_ _) | (with_reducible refine below_grew ?_ ?_ _) | (with_reducible refine Below.setCell ?_ ?_ _) | (with_reducible refine Below.drew ?_) | (with_reducible refine below_drewN ?_ _) | omega | (simp; done) | (simp; omega)))), ?_⟩
    conv => lhs; whnf
    try rfl
  · exact fun _ => rfl
  simp only [List.nil_append, List.cons_append, Nat.reduceAdd]
  refine RI.wpInv_det (by kernel_rfl) (by kernel_rfl) ?_
  apply Exists.intro
  refine ⟨?_, ?_, ?_⟩
  · rintro D U W hDi ⟨hC, hP⟩ hH
    have hF := HF.out _ W hP
    simp only [HypsU, predsOf, Region.binds, List.filterMap_cons, List.filterMap_nil, if_true, List.nil_append, List.cons_append, List.getD_cons_zero, List.getD_cons_succ] at hH
    simp only [fillPuts, Act.put, List.setIfInBounds_toArray, List.set_cons_zero, List.set_cons_succ, Nat.reduceAdd]
    (try simp only [hH]); go_wp2_with fail
    refine ⟨rfl, rfl, (show Below W.heap.size W _ from by (repeat' (first | (with_reducible exact Below.refl _ _) | (with_reducible assumption) | (with_reducible refine Below.alloc ?_ ?_ _) | (with_reducible refine below_grew ?_ ?_ _) | (with_reducible refine Below.setCell ?_ ?_ _) | (with_reducible refine Below.drew ?_) | (with_reducible refine below_drewN ?_ _) | omega | (simp; done) | (simp; omega)))), ?_⟩
    conv => lhs; whnf
    try rfl
  · exact fun _ => rfl
  simp only [List.nil_append, List.cons_append, Nat.reduceAdd]
  refine RI.wpInv_det (by kernel_rfl) (by kernel_rfl) ?_
  apply Exists.intro
  refine ⟨?_, ?_, ?_⟩
  · rintro D U W hDi ⟨hC, hP⟩ hH
    have hF := HF.out _ W hP
    simp only [HypsU, predsOf, Region.binds, List.filterMap_cons, List.filterMap_nil, if_true, List.nil_append, List.cons_append, List.getD_cons_zero, List.getD_cons_succ] at hH
    simp only [fillPuts, Act.put, List.setIfInBounds_toArray, List.set_cons_zero, List.set_cons_succ, Nat.reduceAdd]
    (try simp only [hH]); go_wp2_with fail
    refine ⟨rfl, rfl, (show Below W.heap.size W _ from by (repeat' (first | (with_reducible exact Below.refl _ _) | (with_reducible assumption) | (with_reducible refine Below.alloc ?_ ?_ _) | (with_reducible refine below_grew ?_ ?_ _) | (with_reducible refine Below.setCell ?_ ?_ _) | (with_reducible refine Below.drew ?_) | (with_reducible refine below_drewN ?_ _) | omega | (simp; done) | (simp; omega)))), ?_⟩
    conv => lhs; whnf
    try rfl
  · exact fun _ => rfl
  simp only [List.nil_append, List.cons_append, Nat.reduceAdd]
  simp only [List.nil_append, List.cons_append, Nat.reduceAdd, fillPuts, Act.put, List.setIfInBounds_toArray, List.set_cons_zero, List.set_cons_succ]
  rintro D U W hD ⟨hC, hP⟩ ⟨h0, h1, h2, h3, h4, h5, h6, h7, h8, h9, h10, -⟩ -
  rw [hD 2 (by omega)] at hP
  simp only [h0, h1, h2, h3, h4, h5, h6, h7, h8, h9, h10]
  rw [or_zero g b0 (by omega)]
  have HPW := Lib.hid (show RdAt c s1 W from hP)
  have HCW := Lib.hid (HC4.out.trans hC)
  have hmin : min g (t - 1) = g := by omega
  clear h0 h1 h2 h3 h4 h5 h6 h7 h8 h9 h10 hC hP HR4 HC4 HF HPD hl hon hr0
  go_wp2_with fail
  refine bodyPost_ret (v := _) (by simp [results, Tryd.results78, go_sem]; rfl) rfl ⟨?_, ?_⟩
  · rfl
  · exact ⟨HPW.out, HCW.out⟩
end Go.Proofs.YtbcdnbbpkikppaaDoor
end

section
namespace Go.Proofs.YtbcdnbbpkikppaaDoor
open Go.RowKit Go.BigFrame
set_option linter.unusedSimpArgs false
set_option linter.unusedVariables false
abbrev TJR := 106
/-- What a job holds: the frame so far, the mode, the tools, the energies ahead, whether it is bad. -/
structure JSt where
  f : Nat → Int
  sz : Int
  ch : Int
  tv : Value
  prev : Nat → Int
  bad : Bool
def jcell (rb : Nat) (j : JSt) (i : Nat) : Value :=
  if i < 94 then fcell i (j.f i) else if i = 94 then .int .i64 j.sz else if i = 95 then .int .i64 j.ch else if i = 96 then .pointer (some ⟨rb, 0, none⟩) else if i = 97 then j.tv else if i < 108 then .int .i64 (j.prev (i - 98)) else .bool j.bad
/-- A job in its block, and its reader. -/
structure JR (jb : Nat) (c : RC) (j : JSt) (s : RS) (w : World) : Prop where
  blk : Bv jb TJR 109 (jcell c.rb j) w
  rd : RdAt c s w
  ne : jb ≠ c.rb
  ng : 0 < c.n → jb ≠ c.g
theorem JR.lt {jb c j s} {w : World} (h : JR jb c j s w) : jb < w.heap.size := (block_facts h.blk).2.2
theorem JR.keep {jb c j s} {w w' : World} (h : JR jb c j s w) (hb : Below w.heap.size w w') : JR jb c j s w' :=
  ⟨(hb.block jb h.lt).trans h.blk, h.rd.keep0 hb, h.ne, h.ng⟩
/-- The reader went on. -/
theorem JR.read {jb c j s s'} {w w' : World} (h : JR jb c j s w) (hr : RdAt c s' w') (hc : Chg [c.rb] w w') : JR jb c j s' w' :=
  ⟨hc.keepB h.blk (by simpa using h.ne), hr, h.ne, h.ng⟩
/-- The job's block was written. -/
theorem JR.turn {jb c j j' s} {w w' : World} (h : JR jb c j s w) (hb : Bv jb TJR 109 (jcell c.rb j') w') (hc : Chg [jb] w w') : JR jb c j' s w' :=
  ⟨hb, ⟨hc.keepB h.rd.blk (by simpa using fun e => h.ne e.symm), fun hn => by obtain ⟨a1, a2, a3⟩ := h.rd.adr hn; exact ⟨a1, Nat.lt_of_lt_of_le a2 hc.size, a3⟩, fun i hi => by
    obtain ⟨a1, a2, a3⟩ := h.rd.adr (by omega)
    have hg := h.ng (by omega)
    exact ⟨(hc.cell c.g i a2 (by simpa using fun e => hg e.symm)).trans (h.rd.byt i hi).1, (h.rd.byt i hi).2⟩⟩, h.ne, h.ng⟩
theorem JR.fz {jb c j s} {w : World} (h : JR jb c j s w) (i : Nat) : w.frozen? ⟨jb, i, none⟩ = false := (block_facts h.blk).2.1 i
theorem JR.cf {jb c j s} {w : World} (h : JR jb c j s w) (i : Nat) (hi : i < 94) : w.cell? ⟨jb, i, none⟩ = some (fcell i (j.f i)) := by
  rw [h.blk.cell i (by omega)]; unfold jcell; rw [if_pos hi]
theorem JR.cs {jb c j s} {w : World} (h : JR jb c j s w) : w.cell? ⟨jb, 96, none⟩ = some (.pointer (some ⟨c.rb, 0, none⟩)) := h.blk.cell 96 (by omega)
theorem JR.cb {jb c j s} {w : World} (h : JR jb c j s w) : w.cell? ⟨jb, 108, none⟩ = some (.bool j.bad) := h.blk.cell 108 (by omega)
theorem JR.setBad {jb c j s} {w : World} (h : JR jb c j s w) (b : Bool) : JR jb c { j with bad := b } s (w.setCell ⟨jb, 108, none⟩ (.bool b)) :=
  h.turn ((h.blk.set 108 (by omega) (.bool b)).ext fun i hi => by
    unfold updV jcell
    by_cases e : i = 108
    · subst e; rfl
    · rw [if_neg e]
      simp only
      split
      · rfl
      · split
        · rfl
        · split
          · rfl
          · split
            · rfl
            · split
              · rfl
              · split
                · rfl
                · omega) ((Chg.refl _ _).setCell _ (by simp))
theorem JR.setF {jb c j s} {w : World} (h : JR jb c j s w) (k : Nat) (hk : k < 94) (x : Int) : JR jb c { j with f := updI j.f k x } s (w.setCell ⟨jb, k, none⟩ (fcell k x)) :=
  h.turn ((h.blk.set k (by omega) (fcell k x)).ext fun i hi => by
    unfold updV jcell
    by_cases e : i = k
    · subst e; rw [if_pos rfl, if_pos hk]; simp [updI]
    · rw [if_neg e]
      by_cases h94 : i < 94
      · rw [if_pos h94, if_pos h94]; simp [updI, e]
      · rw [if_neg h94, if_neg h94]) ((Chg.refl _ _).setCell _ (by simp))
set_option maxHeartbeats 2000000 in
set_option maxRecDepth 100000 in
theorem jrUint (jb : Nat) (c : RC) (j : JSt) (s : RS) (hok : RsOk s) (t : Int) (ht : 1 ≤ t ∧ t ≤ 256) (w : World) (h : JR jb c j s w) (hk : s.taken ≤ 900000) (hn : c.n ≤ 1000000) :
    Calls Tryd.prog 47 #[.pointer (some ⟨jb, 0, none⟩), .int .i64 t] w fun e w' => e = .returned (.int .i64 (getF s t)) ∧ JR jb c j (oneS c s t) w' ∧ Chg [jb, c.rb] w w' := by
  have hu := Lib.hid (fun w h => rdUint c s hok t ht w h hk hn)
  have H := Lib.hid h
  have cs := h.cs
  have hl := h.lt
  clear h ht hok
  go_enter Tryd.func47, Tryd.ntmps47
  go_wp2_with fail
  refine (hu.out _ H.out.rd).mono ?_
  rintro e w1 ⟨rfl, hr, hc⟩
  have hj := H.out.read hr hc
  have HJ := Lib.hid hj
  have HC := Lib.hid (hc.mono (l' := [jb, c.rb]) (by simp))
  have cb := hj.cb
  have fb := hj.fz 108
  have hl1 := hj.lt
  obtain ⟨bd, hbd⟩ : ∃ b, j.bad = b := ⟨_, rfl⟩
  rw [hbd] at cb
  have HBD := Lib.hid hbd
  clear hr hc hj H cs hl hu hbd
  cases bd
  · go_wp2_with fail
    have h2 := HJ.out.setBad false
    have e2 : ({ j with bad := false } : JSt) = j := by rw [← HBD.out]
    rw [e2] at h2
    refine bodyPost_ret (v := _) (by simp [results, Tryd.results47, go_sem]; rfl) rfl ⟨?_, ?_⟩
    · rfl
    · exact ⟨h2, HC.out.setCell _ (by simp)⟩
  · go_wp2_with fail
    have h2 := HJ.out.setBad true
    have e2 : ({ j with bad := true } : JSt) = j := by rw [← HBD.out]
    rw [e2] at h2
    refine bodyPost_ret (v := _) (by simp [results, Tryd.results47, go_sem]; rfl) rfl ⟨?_, ?_⟩
    · rfl
    · exact ⟨h2, HC.out.setCell _ (by simp)⟩
end Go.Proofs.YtbcdnbbpkikppaaDoor
end

section
namespace Go.Proofs.YtbcdnbbpkikppaaDoor
open Go.RowKit Go.BigFrame
set_option linter.unusedSimpArgs false
set_option linter.unusedVariables false
theorem and_one32 : ∀ h : Fin 32, bits .and .i64 (h.val : Int) 1 = (h.val : Int) % 2 := by decide +kernel
theorem and_oneI (h : Int) (h0 : 0 ≤ h) (h1 : h < 32) : bits .and .i64 h 1 = h % 2 := by
  obtain ⟨n, rfl⟩ := Int.eq_ofNat_of_zero_le h0
  exact and_one32 ⟨n, by omega⟩
def headF (f : Nat → Int) (h : Int) : Nat → Int := updI (updI (updI f 0 (h % 2)) 1 (h / 2 % 2)) 2 (h / 4)
def headJ (j : JSt) (h : Int) : JSt := { j with f := headF j.f h, bad := j.bad || decide (16 ≤ h) }
theorem flag_cell (k : Nat) (hk : k < 2) (p : Int) (hp : p = 0 ∨ p = 1) : fcell k p = .bool (decide (p = 1)) := by
  unfold fcell; rw [if_pos hk]
  rcases hp with rfl | rfl <;> rfl
set_option maxHeartbeats 4000000 in
set_option maxRecDepth 100000 in
theorem jrHead (jb : Nat) (c : RC) (j : JSt) (s : RS) (hok : RsOk s) (w : World) (h : JR jb c j s w) (hk : s.taken ≤ 900000) (hn : c.n ≤ 1000000) :
    Calls Tryd.prog 46 #[.pointer (some ⟨jb, 0, none⟩)] w fun e w' => e = .returned (.tuple #[]) ∧ JR jb c (headJ j (getF s 32)) (oneS c s 32) w' ∧ Chg [jb, c.rb] w w' := by
  have hu := Lib.hid (fun w h => jrUint jb c j s hok 32 (by omega) w h hk hn)
  have H := Lib.hid h
  have hbd := getF_bd s hok 32 (by omega)
  obtain ⟨g, hg⟩ : ∃ g, getF s 32 = g := ⟨_, rfl⟩
  obtain ⟨s1, hs1⟩ : ∃ s1, oneS c s 32 = s1 := ⟨_, rfl⟩
  rw [hg, hs1] at hu
  rw [hg] at hbd ⊢
  rw [hs1]
  obtain ⟨b0, b1⟩ := hbd
  clear h hok hg hs1
  have ha := and_oneI g b0 b1
  have ha2 := and_oneI (g / 2) (by omega) (by omega)
  have p0 : g % 2 = 0 ∨ g % 2 = 1 := by omega
  have p1 : g / 2 % 2 = 0 ∨ g / 2 % 2 = 1 := by omega
  have E0 := Lib.hid (flag_cell 0 (by omega) _ p0)
  have E1 := Lib.hid (flag_cell 1 (by omega) _ p1)
  have E2 := Lib.hid (fcell_int 2 (by omega) (g / 4))
  clear p0 p1
  go_enter Tryd.func46, Tryd.ntmps46
  go_wp2_with fail
  refine (hu.out _ H.out).mono ?_
  rintro e w1 ⟨rfl, hj, hc⟩
  have HJ := Lib.hid hj
  have HC := Lib.hid hc
  have cb := hj.cb
  have fb := hj.fz 108
  have hl1 := hj.lt
  have hbad : (j.bad || decide (16 ≤ g)) = (headJ j g).bad := rfl
  have HJH := Lib.hid (show headJ j g = { j with f := headF j.f g, bad := j.bad || decide (16 ≤ g) } from rfl)
  obtain ⟨bd, hbd⟩ : ∃ b, j.bad = b := ⟨_, rfl⟩
  rw [hbd] at cb HJH
  clear hj hc H hu hbd hbad
  by_cases h16 : 16 ≤ g
  · have d16 : decide (16 ≤ g) = true := decide_eq_true h16
    cases bd
    · skip
      go_upto_region 2 with fail
      refine cut_world (fun W => JR jb c { j with bad := true } s1 W ∧ Chg [jb, c.rb] w W) ⟨HJ.out.setBad true, HC.out.setCell _ (by simp)⟩ ?_
      clear HJ HC cb fb hl1
      rintro V ⟨hj, hc⟩
      have HJ := Lib.hid hj
      have HC := Lib.hid hc
      have q0 := hj.cf 0 (by omega)
      have g0 := hj.fz 0
      have hl1 := hj.lt
      have h2 := hj.setF 0 (by omega) (g % 2)
      rw [E0.out] at h2
      have H2 := Lib.hid h2
      clear hj hc h2
      go_upto_region 3 with fail
      refine cut_world (fun W => JR jb c { j with bad := true, f := updI j.f 0 (g % 2) } s1 W ∧ Chg [jb, c.rb] w W) ⟨H2.out, HC.out.setCell _ (by simp)⟩ ?_
      clear HJ HC q0 g0 hl1 H2
      rintro V2 ⟨hj, hc⟩
      have HJ := Lib.hid hj
      have HC := Lib.hid hc
      have q0 := hj.cf 1 (by omega)
      have g0 := hj.fz 1
      have hl1 := hj.lt
      have h2 := hj.setF 1 (by omega) (g / 2 % 2)
      rw [E1.out] at h2
      have H2 := Lib.hid h2
      clear hj hc h2
      go_upto_region 4 with fail
      refine cut_world (fun W => JR jb c { j with bad := true, f := updI (updI j.f 0 (g % 2)) 1 (g / 2 % 2) } s1 W ∧ Chg [jb, c.rb] w W) ⟨H2.out, HC.out.setCell _ (by simp)⟩ ?_
      clear HJ HC q0 g0 hl1 H2
      rintro V3 ⟨hj, hc⟩
      have HJ := Lib.hid hj
      have HC := Lib.hid hc
      have q0 := hj.cf 2 (by omega)
      have g0 := hj.fz 2
      have hl1 := hj.lt
      have h2 := hj.setF 2 (by omega) (g / 4)
      rw [E2.out] at h2
      have H2 := Lib.hid h2
      clear hj hc h2
      go_wp2_with fail
      go_end0
      refine ⟨rfl, ?_, HC.out.setCell _ (by simp)⟩
      rw [HJH.out]
      have e16 : (false || decide (16 ≤ g)) = true := by rw [d16]; rfl
      rw [e16]
      exact H2.out
    · skip
      go_upto_region 2 with fail
      refine cut_world (fun W => JR jb c { j with bad := true } s1 W ∧ Chg [jb, c.rb] w W) ⟨HJ.out.setBad true, HC.out.setCell _ (by simp)⟩ ?_
      clear HJ HC cb fb hl1
      rintro V ⟨hj, hc⟩
      have HJ := Lib.hid hj
      have HC := Lib.hid hc
      have q0 := hj.cf 0 (by omega)
      have g0 := hj.fz 0
      have hl1 := hj.lt
      have h2 := hj.setF 0 (by omega) (g % 2)
      rw [E0.out] at h2
      have H2 := Lib.hid h2
      clear hj hc h2
      go_upto_region 3 with fail
      refine cut_world (fun W => JR jb c { j with bad := true, f := updI j.f 0 (g % 2) } s1 W ∧ Chg [jb, c.rb] w W) ⟨H2.out, HC.out.setCell _ (by simp)⟩ ?_
      clear HJ HC q0 g0 hl1 H2
      rintro V2 ⟨hj, hc⟩
      have HJ := Lib.hid hj
      have HC := Lib.hid hc
      have q0 := hj.cf 1 (by omega)
      have g0 := hj.fz 1
      have hl1 := hj.lt
      have h2 := hj.setF 1 (by omega) (g / 2 % 2)
      rw [E1.out] at h2
      have H2 := Lib.hid h2
      clear hj hc h2
      go_upto_region 4 with fail
      refine cut_world (fun W => JR jb c { j with bad := true, f := updI (updI j.f 0 (g % 2)) 1 (g / 2 % 2) } s1 W ∧ Chg [jb, c.rb] w W) ⟨H2.out, HC.out.setCell _ (by simp)⟩ ?_
      clear HJ HC q0 g0 hl1 H2
      rintro V3 ⟨hj, hc⟩
      have HJ := Lib.hid hj
      have HC := Lib.hid hc
      have q0 := hj.cf 2 (by omega)
      have g0 := hj.fz 2
      have hl1 := hj.lt
      have h2 := hj.setF 2 (by omega) (g / 4)
      rw [E2.out] at h2
      have H2 := Lib.hid h2
      clear hj hc h2
      go_wp2_with fail
      go_end0
      refine ⟨rfl, ?_, HC.out.setCell _ (by simp)⟩
      rw [HJH.out]
      have e16 : (true || decide (16 ≤ g)) = true := by rw [d16]; rfl
      rw [e16]
      exact H2.out
  · have d16 : decide (16 ≤ g) = false := decide_eq_false h16
    cases bd
    · skip
      go_upto_region 2 with fail
      refine cut_world (fun W => JR jb c { j with bad := false } s1 W ∧ Chg [jb, c.rb] w W) ⟨HJ.out.setBad false, HC.out.setCell _ (by simp)⟩ ?_
      clear HJ HC cb fb hl1
      rintro V ⟨hj, hc⟩
      have HJ := Lib.hid hj
      have HC := Lib.hid hc
      have q0 := hj.cf 0 (by omega)
      have g0 := hj.fz 0
      have hl1 := hj.lt
      have h2 := hj.setF 0 (by omega) (g % 2)
      rw [E0.out] at h2
      have H2 := Lib.hid h2
      clear hj hc h2
      go_upto_region 3 with fail
      refine cut_world (fun W => JR jb c { j with bad := false, f := updI j.f 0 (g % 2) } s1 W ∧ Chg [jb, c.rb] w W) ⟨H2.out, HC.out.setCell _ (by simp)⟩ ?_
      clear HJ HC q0 g0 hl1 H2
      rintro V2 ⟨hj, hc⟩
      have HJ := Lib.hid hj
      have HC := Lib.hid hc
      have q0 := hj.cf 1 (by omega)
      have g0 := hj.fz 1
      have hl1 := hj.lt
      have h2 := hj.setF 1 (by omega) (g / 2 % 2)
      rw [E1.out] at h2
      have H2 := Lib.hid h2
      clear hj hc h2
      go_upto_region 4 with fail
      refine cut_world (fun W => JR jb c { j with bad := false, f := updI (updI j.f 0 (g % 2)) 1 (g / 2 % 2) } s1 W ∧ Chg [jb, c.rb] w W) ⟨H2.out, HC.out.setCell _ (by simp)⟩ ?_
      clear HJ HC q0 g0 hl1 H2
      rintro V3 ⟨hj, hc⟩
      have HJ := Lib.hid hj
      have HC := Lib.hid hc
      have q0 := hj.cf 2 (by omega)
      have g0 := hj.fz 2
      have hl1 := hj.lt
      have h2 := hj.setF 2 (by omega) (g / 4)
      rw [E2.out] at h2
      have H2 := Lib.hid h2
      clear hj hc h2
      go_wp2_with fail
      go_end0
      refine ⟨rfl, ?_, HC.out.setCell _ (by simp)⟩
      rw [HJH.out]
      have e16 : (false || decide (16 ≤ g)) = false := by rw [d16]; rfl
      rw [e16]
      exact H2.out
    · skip
      go_upto_region 2 with fail
      refine cut_world (fun W => JR jb c { j with bad := true } s1 W ∧ Chg [jb, c.rb] w W) ⟨HJ.out.setBad true, HC.out.setCell _ (by simp)⟩ ?_
      clear HJ HC cb fb hl1
      rintro V ⟨hj, hc⟩
      have HJ := Lib.hid hj
      have HC := Lib.hid hc
      have q0 := hj.cf 0 (by omega)
      have g0 := hj.fz 0
      have hl1 := hj.lt
      have h2 := hj.setF 0 (by omega) (g % 2)
      rw [E0.out] at h2
      have H2 := Lib.hid h2
      clear hj hc h2
      go_upto_region 3 with fail
      refine cut_world (fun W => JR jb c { j with bad := true, f := updI j.f 0 (g % 2) } s1 W ∧ Chg [jb, c.rb] w W) ⟨H2.out, HC.out.setCell _ (by simp)⟩ ?_
      clear HJ HC q0 g0 hl1 H2
      rintro V2 ⟨hj, hc⟩
      have HJ := Lib.hid hj
      have HC := Lib.hid hc
      have q0 := hj.cf 1 (by omega)
      have g0 := hj.fz 1
      have hl1 := hj.lt
      have h2 := hj.setF 1 (by omega) (g / 2 % 2)
      rw [E1.out] at h2
      have H2 := Lib.hid h2
      clear hj hc h2
      go_upto_region 4 with fail
      refine cut_world (fun W => JR jb c { j with bad := true, f := updI (updI j.f 0 (g % 2)) 1 (g / 2 % 2) } s1 W ∧ Chg [jb, c.rb] w W) ⟨H2.out, HC.out.setCell _ (by simp)⟩ ?_
      clear HJ HC q0 g0 hl1 H2
      rintro V3 ⟨hj, hc⟩
      have HJ := Lib.hid hj
      have HC := Lib.hid hc
      have q0 := hj.cf 2 (by omega)
      have g0 := hj.fz 2
      have hl1 := hj.lt
      have h2 := hj.setF 2 (by omega) (g / 4)
      rw [E2.out] at h2
      have H2 := Lib.hid h2
      clear hj hc h2
      go_wp2_with fail
      go_end0
      refine ⟨rfl, ?_, HC.out.setCell _ (by simp)⟩
      rw [HJH.out]
      have e16 : (true || decide (16 ≤ g)) = true := by rw [d16]; rfl
      rw [e16]
      exact H2.out
end Go.Proofs.YtbcdnbbpkikppaaDoor
end

section
namespace Go.Proofs.YtbcdnbbpkikppaaDoor
open Go.RowKit Go.BigFrame
set_option linter.unusedSimpArgs false
abbrev RightP (s c : Int) : Prop := 0 ≤ s ∧ s < 3 ∧ 1 ≤ c ∧ c ≤ 2
def widL : List Int := [2, 2, 4, 8, 16]
abbrev WidthW (w : World) : Prop := TabW 0 5 .i64 widL w
theorem WidthW.at {w : World} (h : WidthW w) (j : Int) (h0 : 0 ≤ j) (h1 : j < 5) : w.cell? ⟨0, j.toNat, none⟩ = some (.int .i64 (widL.getD j.toNat 0)) := h.2 j.toNat (by omega)
theorem modeRight (s c : Int) (w : World) : Calls Tryd.prog 45 #[.agg #[.int .i64 s, .int .i64 c]] w fun e w' => e = .returned (.bool (decide (RightP s c))) ∧ Below w.heap.size w w' := by
  by_cases h0 : 0 ≤ s
  · skip
    by_cases h1 : s < 3
    · skip
      by_cases h2 : 1 ≤ c
      · skip
        by_cases h3 : c ≤ 2
        · skip
          go_enter Tryd.func45, Tryd.ntmps45
          go_wp2
          go_ret
          exact ⟨ret_bool (by first | rfl | (simp; done) | (simp; omega)), by (repeat' (first | (with_reducible exact Below.refl _ _) | (with_reducible assumption) | (with_reducible refine Below.alloc ?_ ?_ _) | (with_reducible refine below_grew ?_ ?_ _) | (with_reducible refine Below.setCell ?_ ?_ _) | (with_reducible refine Below.drew ?_) | (with_reducible refine below_drewN ?_ _) | omega | (simp; done) | (simp; omega)))⟩
        · skip
          go_enter Tryd.func45, Tryd.ntmps45
          go_wp2
          go_ret
          exact ⟨ret_bool (by first | rfl | (simp; done) | (simp; omega)), by (repeat' (first | (with_reducible exact Below.refl _ _) | (with_reducible assumption) | (with_reducible refine Below.alloc ?_ ?_ _) | (with_reducible refine below_grew ?_ ?_ _) | (with_reducible refine Below.setCell ?_ ?_ _) | (with_reducible refine Below.drew ?_) | (with_reducible refine below_drewN ?_ _) | omega | (simp; done) | (simp; omega)))⟩
      · skip
        go_enter Tryd.func45, Tryd.ntmps45
        go_wp2
        go_ret
        exact ⟨ret_bool (by first | rfl | (simp; done) | (simp; omega)), by (repeat' (first | (with_reducible exact Below.refl _ _) | (with_reducible assumption) | (with_reducible refine Below.alloc ?_ ?_ _) | (with_reducible refine below_grew ?_ ?_ _) | (with_reducible refine Below.setCell ?_ ?_ _) | (with_reducible refine Below.drew ?_) | (with_reducible refine below_drewN ?_ _) | omega | (simp; done) | (simp; omega)))⟩
    · skip
      go_enter Tryd.func45, Tryd.ntmps45
      go_wp2
      go_ret
      exact ⟨ret_bool (by first | rfl | (simp; done) | (simp; omega)), by (repeat' (first | (with_reducible exact Below.refl _ _) | (with_reducible assumption) | (with_reducible refine Below.alloc ?_ ?_ _) | (with_reducible refine below_grew ?_ ?_ _) | (with_reducible refine Below.setCell ?_ ?_ _) | (with_reducible refine Below.drew ?_) | (with_reducible refine below_drewN ?_ _) | omega | (simp; done) | (simp; omega)))⟩
  · skip
    go_enter Tryd.func45, Tryd.ntmps45
    go_wp2
    go_ret
    exact ⟨ret_bool (by first | rfl | (simp; done) | (simp; omega)), by (repeat' (first | (with_reducible exact Below.refl _ _) | (with_reducible assumption) | (with_reducible refine Below.alloc ?_ ?_ _) | (with_reducible refine below_grew ?_ ?_ _) | (with_reducible refine Below.setCell ?_ ?_ _) | (with_reducible refine Below.drew ?_) | (with_reducible refine below_drewN ?_ _) | omega | (simp; done) | (simp; omega)))⟩
end Go.Proofs.YtbcdnbbpkikppaaDoor
end

section
namespace Go
open Go.RowKit
theorem results_row_tmp3 {P : Program} {fn : Func} {p u u2 : Tmp} {ty : TypeId} (h : fn.results = #[.cell p ty, .tmp u, .tmp u2]) (tmps : Array Value) (w : World) (g : Nat) (t : TypeId) (cs : Array Value) (fr : Nat × Nat) (d : TypeDesc) (v v2 : Value)
    (hp : tmps.getD p undef = .pointer (some ⟨g, 0, none⟩)) (hv : tmps.getD u undef = v) (hv2 : tmps.getD u2 undef = v2) (hg : w.heap[g]? = some (.cells cs t fr))
    (hu : P.underlying ty = some d) (hd : (match d with | .struct _ | .array _ _ => true | _ => false) = true) (hi : (P.info? ty).map (·.size) = some cs.size) :
    (results fn tmps).run P w = .ok (.tuple #[.agg cs, v, v2]) w := by
  have e : (results fn tmps).run P w =
      ((asAddr (tmps.getD p undef)).run P w).andThen fun a w₁ => ((loadVar ty a).run P w₁).andThen fun v w₂ => .ok (.tuple #[v, tmps.getD u undef, tmps.getD u2 undef]) w₂ := by
    simp only [results, h]
    simp [Sem.run_bind, Result.andThen]
  rw [e, hp, hv, hv2]
  simp [asAddr, run_loadVar_row w g t ty cs fr d hg hu hd hi, Result.andThen]
end Go
namespace Go.Proofs.YtbcdnbbpkikppaaDoor
open Go.RowKit Go.BigFrame
set_option linter.unusedSimpArgs false
set_option linter.unusedVariables false
abbrev TMo := 53
/-- The call's frame: the mode, the energies ahead, the result. -/
structure RW (w : World) (B : Nat) (sz ch : Int) (prev : Nat → Int) (W : World) : Prop where
  below : Below B w W
  mo : W.heap[B]? = some (.cells #[.int .i64 sz, .int .i64 ch] TMo (0, 0))
  pv : Bx (B + 1) TPv i64t 10 prev W
  rs : Bv (B + 2) TFr 94 (frC zeroF) W
theorem RW.keep {w B sz ch prev} {W W' : World} (h : RW w B sz ch prev W) (hb : Below W.heap.size W W') : RW w B sz ch prev W' := by
  have h0 := (block_facts h.mo).2.2
  have h1 := (block_facts h.pv).2.2
  have h2 := (block_facts h.rs).2.2
  exact ⟨h.below.trans (hb.mono (by omega)), (hb.block _ h0).trans h.mo, (hb.block _ h1).trans h.pv, (hb.block _ h2).trans h.rs⟩
theorem RW.m0 {w B sz ch prev} {W : World} (h : RW w B sz ch prev W) : W.cell? ⟨B, 0, none⟩ = some (.int .i64 sz) := (block_facts h.mo).1 0
theorem RW.m1 {w B sz ch prev} {W : World} (h : RW w B sz ch prev W) : W.cell? ⟨B, 1, none⟩ = some (.int .i64 ch) := (block_facts h.mo).1 1
theorem rw_new (w : World) (sz ch : Int) (prev : Nat → Int) : RW w w.heap.size sz ch prev (((w.alloc (.cells #[.int .i64 sz, .int .i64 ch] TMo (0, 0))).alloc (.cells (ag i64t 10 prev) TPv (0, 0))).alloc (.cells Tryd.zeroCells35 TFr (0, 0))) := by
  refine ⟨by (repeat' (first | (with_reducible exact Below.refl _ _) | (with_reducible assumption) | (with_reducible refine Below.alloc ?_ ?_ _) | (with_reducible refine below_grew ?_ ?_ _) | (with_reducible refine Below.setCell ?_ ?_ _) | (with_reducible refine Below.drew ?_) | (with_reducible refine below_drewN ?_ _) | omega | (simp; done) | (simp; omega))), alloc_three' _ _ _ _, ?_, ?_⟩
  · exact (alloc_old _ _ _ (by simp)).trans (alloc_secondOf _ _ _)
  · have h := alloc_at ((w.alloc (.cells #[.int .i64 sz, .int .i64 ch] TMo (0, 0))).alloc (.cells (ag i64t 10 prev) TPv (0, 0))) (.cells Tryd.zeroCells35 TFr (0, 0))
    rw [zeroFr_eq] at h
    have e : ((w.alloc (.cells #[.int .i64 sz, .int .i64 ch] TMo (0, 0))).alloc (.cells (ag i64t 10 prev) TPv (0, 0))).heap.size = w.heap.size + 2 := by simp
    rw [e] at h
    exact h
end Go.Proofs.YtbcdnbbpkikppaaDoor
end

section
namespace Go.Proofs.YtbcdnbbpkikppaaDoor
open Go.RowKit Go.BigFrame
set_option linter.unusedSimpArgs false
set_option linter.unusedVariables false
theorem RdAt.keep2 {c : RC} {s : RS} {l : List Nat} {w w' : World} (h : RdAt c s w) (hc : Chg l w w') (h1 : c.rb ∉ l) (h2 : 0 < c.n → c.g ∉ l) : RdAt c s w' :=
  ⟨hc.keepB h.blk h1, fun hn => by obtain ⟨a1, a2, a3⟩ := h.adr hn; exact ⟨a1, Nat.lt_of_lt_of_le a2 hc.size, a3⟩, fun i hi => by
    obtain ⟨a1, a2, a3⟩ := h.adr (by omega)
    exact ⟨(hc.cell c.g i a2 (h2 (by omega))).trans (h.byt i hi).1, (h.byt i hi).2⟩⟩
/-- The call's frame, beside a reader that goes on. -/
structure RR (w : World) (B : Nat) (c : RC) (sz ch : Int) (prev : Nat → Int) (W : World) : Prop where
  chg : Chg [c.rb] w W
  mo : W.heap[B]? = some (.cells #[.int .i64 sz, .int .i64 ch] TMo (0, 0))
  pv : Bx (B + 1) TPv i64t 10 prev W
  rs : Bv (B + 2) TFr 94 (frC zeroF) W
  lt : c.rb < B
  wB : w.heap.size ≤ B
theorem RR.size {w B c sz ch prev} {W : World} (h : RR w B c sz ch prev W) : B + 2 < W.heap.size := (block_facts h.rs).2.2
theorem RR.go {w B c sz ch prev} {W W' : World} {jb : Nat} (h : RR w B c sz ch prev W) (hc : Chg [jb, c.rb] W W') (hj : B + 2 < jb) : RR w B c sz ch prev W' := by
  have hl := h.lt
  refine ⟨h.chg.drop hc (fun i hi => ?_), hc.keepB h.mo (by simp; omega), hc.keepB h.pv (by simp; omega), hc.keepB h.rs (by simp; omega), h.lt, h.wB⟩
  simp only [List.mem_cons, List.not_mem_nil, or_false] at hi ⊢
  have := h.wB
  rcases hi with h1 | h1
  · exact .inr (by omega)
  · exact .inl h1
theorem RR.keep {w B c sz ch prev} {W W' : World} (h : RR w B c sz ch prev W) (hb : Below W.heap.size W W') : RR w B c sz ch prev W' := by
  exact h.go (jb := B + 3) (Chg.of_below hb) (by omega)
theorem RR.m0 {w B c sz ch prev} {W : World} (h : RR w B c sz ch prev W) : W.cell? ⟨B, 0, none⟩ = some (.int .i64 sz) := (block_facts h.mo).1 0
theorem RR.m1 {w B c sz ch prev} {W : World} (h : RR w B c sz ch prev W) : W.cell? ⟨B, 1, none⟩ = some (.int .i64 ch) := (block_facts h.mo).1 1
theorem rr_new (w : World) (c : RC) (hl : c.rb < w.heap.size) (sz ch : Int) (prev : Nat → Int) : RR w w.heap.size c sz ch prev (((w.alloc (.cells #[.int .i64 sz, .int .i64 ch] TMo (0, 0))).alloc (.cells (ag i64t 10 prev) TPv (0, 0))).alloc (.cells Tryd.zeroCells35 TFr (0, 0))) := by
  have h := rw_new w sz ch prev
  exact ⟨Chg.of_below h.below, h.mo, h.pv, h.rs, hl, Nat.le_refl _⟩
def startJ (sz ch : Int) (tt : TypeId) (tx : Value) (prev : Nat → Int) : JSt := { f := zeroF, sz := sz, ch := ch, tv := .iface tt tx, prev := prev, bad := false }
theorem range_av {w : World} {b T N F} (h : Bv b T N F w) (M : Nat) (hM : M ≤ N) (G : Nat → Value) (hG : ∀ i, i < M → F i = G i) : w.rangeAt b 0 (av M G).toList := by
  intro j v hj
  rw [av_toList] at hj
  have hj' : j < M := by
    have := (List.getElem?_eq_some_iff.1 hj).1
    simpa using this
  simp only [List.getElem?_map, List.getElem?_range hj', Option.map_some, Option.some.injEq] at hj
  subst hj
  rw [Nat.zero_add, h.cell j (by omega), hG j hj']
set_option maxHeartbeats 8000000 in
set_option maxRecDepth 100000 in
theorem readSil (c : RC) (s : RS) (hok : RsOk s) (tt : TypeId) (tx : Value) (sz ch : Int) (hR : RightP sz ch) (prev : Nat → Int) (h16 : getF s 32 < 16) (hs : getF s 32 % 2 = 1) (s1 : RS) (hs1 : oneS c s 32 = s1) (hleft : 0 ≤ s1.left c)
    (hk : s.taken ≤ 900000) (hk1 : s1.taken ≤ 1000000) (hr1 : s1.raws ≤ 1000000) (hn : c.n ≤ 1000000) (w : World) (h : RdAt c s w) :
    Calls Tryd.prog 21 #[.pointer (some ⟨c.rb, 0, none⟩), .iface tt tx, .agg #[.int .i64 sz, .int .i64 ch], .agg (ag i64t 10 prev)] w fun e w' => e = .returned (.tuple #[.agg (av 94 (frC (headF zeroF (getF s 32)))), .int .u32 s1.rng, .bool true]) ∧ RdAt c s1 w' ∧ Chg [c.rb] w w' := by
  have hmr := Lib.hid (fun w => modeRight sz ch w)
  rw [decide_eq_true hR] at hmr
  have hhd := Lib.hid (fun jb w h => jrHead jb c (startJ sz ch tt tx prev) s hok w h hk hn)
  have hbd := getF_bd s hok 32 (by omega)
  have hrg := Lib.hid (fun w h => rdRng c s1 w h)
  have hlf := Lib.hid (fun w h => rdLeft c s1 w h hn hk1 hr1)
  have H := Lib.hid h
  have hl := h.lt
  have hgl := fun hp => (h.adr hp).2.1
  have HGL := Lib.hid hgl
  rw [hs1] at hhd
  obtain ⟨g, hg⟩ : ∃ g, getF s 32 = g := ⟨_, rfl⟩
  rw [hg] at hhd hbd h16 hs ⊢
  obtain ⟨L, hL⟩ : ∃ L, s1.left c = L := ⟨_, rfl⟩
  rw [hL] at hlf hleft
  obtain ⟨b0, b1⟩ := hbd
  clear h hR hs1 hg hok hk hk1 hr1 hL hgl
  go_enter Tryd.func21, Tryd.ntmps21
  go_upto_region 1 with fail
  refine cut_world (fun W => RR w w.heap.size c sz ch prev W ∧ RdAt c s W) ⟨rr_new w c hl sz ch prev, H.out.keep0 (by (repeat' (first | (with_reducible exact Below.refl _ _) | (with_reducible assumption) | (with_reducible refine Below.alloc ?_ ?_ _) | (with_reducible refine below_grew ?_ ?_ _) | (with_reducible refine Below.setCell ?_ ?_ _) | (with_reducible refine Below.drew ?_) | (with_reducible refine below_drewN ?_ _) | omega | (simp; done) | (simp; omega))))⟩ ?_
  rintro V ⟨hV, hrd⟩
  generalize hBd : w.heap.size = B at *
  have HBd := Lib.hid hBd
  have HV := Lib.hid hV
  have HRD := Lib.hid hrd
  have m0 := hV.m0
  have m1 := hV.m1
  clear hV hBd H hrd
  go_wp2_with fail
  refine (hmr.out _).mono ?_
  rintro e w1 ⟨rfl, hb1⟩
  have hV1 := HV.out.keep hb1
  have HV1 := Lib.hid hV1
  have HRD1 := Lib.hid (HRD.out.keep0 hb1)
  have m0 := hV1.m0
  have m1 := hV1.m1
  clear hb1 HV hV1 hmr HRD
  go_upto_region 4 with (first | ((with_reducible refine gate_ld TPv _ rfl ?_); refine load_row_g rfl TPv _ rfl (B + 1) rfl _ (ag i64t 10 prev) (0, 0) _ HV1.out.pv Tryd.underlying30 rfl (by rw [ag_size]; exact infoPv) ?_) | (refine build_to rfl TJR _ rfl (av 109 (jcell c.rb (startJ sz ch tt tx prev))) (by kernel_rfl) ?_))
  have hsz := HV1.out.size
  refine cut_world (fun W => RR w B c sz ch prev W ∧ JR w1.heap.size c (startJ sz ch tt tx prev) s W) ⟨HV1.out.keep (by (repeat' (first | (with_reducible exact Below.refl _ _) | (with_reducible assumption) | (with_reducible refine Below.alloc ?_ ?_ _) | (with_reducible refine below_grew ?_ ?_ _) | (with_reducible refine Below.setCell ?_ ?_ _) | (with_reducible refine Below.drew ?_) | (with_reducible refine below_drewN ?_ _) | omega | (simp; done) | (simp; omega)))), ⟨alloc_at _ _, HRD1.out.keep0 (by (repeat' (first | (with_reducible exact Below.refl _ _) | (with_reducible assumption) | (with_reducible refine Below.alloc ?_ ?_ _) | (with_reducible refine below_grew ?_ ?_ _) | (with_reducible refine Below.setCell ?_ ?_ _) | (with_reducible refine Below.drew ?_) | (with_reducible refine below_drewN ?_ _) | omega | (simp; done) | (simp; omega)))), by have := HRD1.out.lt; omega, fun hp => by have := (HRD1.out.adr hp).2.1; omega⟩⟩ ?_
  clear HV1 HRD1 m0 m1
  generalize w1.heap.size = jb at *
  rintro V2 ⟨hV, hJ⟩
  have HV2 := Lib.hid hV
  have HJ2 := Lib.hid hJ
  clear hV hJ
  go_wp2_with fail
  refine (hhd.out jb _ HJ2.out).mono ?_
  rintro e w3 ⟨rfl, hJ3, hc3⟩
  have HV3 := Lib.hid (HV2.out.go hc3 hsz)
  have HJ3 := Lib.hid hJ3
  clear hJ3 hc3 HV2 HJ2 hhd
  go_wp2_with fail
  refine (hrg.out _ HJ3.out.rd).mono ?_
  rintro e w4 ⟨rfl, hb4⟩
  have HV4 := Lib.hid (HV3.out.keep hb4)
  have hJ4 := HJ3.out.keep hb4
  have HJ4 := Lib.hid hJ4
  have cb := hJ4.cb
  have c0 := hJ4.cf 0 (by omega)
  have e0 : (headJ (startJ sz ch tt tx prev) g).bad = false := by
    show (false || decide (16 ≤ g)) = false
    rw [decide_eq_false (by omega)]; rfl
  have e1 : fcell 0 ((headJ (startJ sz ch tt tx prev) g).f 0) = .bool true := by
    have : (headJ (startJ sz ch tt tx prev) g).f 0 = g % 2 := rfl
    rw [this, hs]; rfl
  rw [e0] at cb
  rw [e1] at c0
  clear hb4 HV3 HJ3 hJ4 e0 e1 hrg
  go_wp2_with fail
  refine (hlf.out _ HJ4.out.rd).mono ?_
  rintro e w5 ⟨rfl, hb5⟩
  have HV5 := Lib.hid (HV4.out.keep hb5)
  have hJ5 := HJ4.out.keep hb5
  have HJ5 := Lib.hid hJ5
  have cb := hJ5.cb
  have HRA := Lib.hid (range_av hJ5.blk 94 (by omega) (frC (headF zeroF g)) (fun i hi => by unfold jcell; rw [if_pos hi]; rfl))
  clear hb5 HV4 HJ4 hJ5 c0 hlf cb
  have hlt0 : ¬ L < 0 := by omega
  go_wp2_with (first | ((with_reducible refine gate_ld TFr _ rfl ?_); refine load_mid_g rfl TFr _ rfl jb 0 rfl _ _ HRA.out Tryd.underlying35 rfl (by rw [Array.length_toList, av_size]; exact infoFr) ?_) | (refine wpList_store_mid rfl TFr _ _ rfl (B + 1 + 1) 0 (av 94 (frC (headF zeroF g))) rfl rfl ?hth ?hin3 ?hon ?_; (case hth => exact there_row HV5.out.rs _ (by rw [av_size, av_size]; exact Nat.le_refl _)); (case hin3 => rw [av_size]; exact infoFr); (case hon => exact fr_one (headF zeroF g))))
  have q1 := cells_all HV5.out.rs (N := 94) (av_size _ _) (cs := av 94 (frC (headF zeroF g))) (av_size _ _)
  have hcg : Chg [B + 2] w5 (w5.setCells (B + 2) 0 (av 94 (frC (headF zeroF g))).toList) := (Chg.refl _ _).setCells _ (by simp)
  have hrb := HV5.out.lt
  have hfin : RdAt c s1 (w5.setCells (B + 2) 0 (av 94 (frC (headF zeroF g))).toList) := HJ5.out.rd.keep2 hcg (by simp; omega) (fun hp => by have := HGL.out hp; have := HBd.out; simp; omega)
  have hfc : Chg [c.rb] w (w5.setCells (B + 2) 0 (av 94 (frC (headF zeroF g))).toList) := HV5.out.chg.drop hcg (fun i hi => .inr (by have := HBd.out; simp only [List.mem_singleton] at hi; omega))
  refine bodyPost_ret (v := .tuple #[.agg (av 94 (frC (headF zeroF g))), .int .u32 s1.rng, .bool true]) ?_ rfl ⟨rfl, hfin, hfc⟩
  exact results_row_tmp3 rfl _ _ (B + 2) _ _ _ _ _ _ rfl rfl rfl q1 Tryd.underlying35 rfl (by rw [av_size]; exact infoFr)
end Go.Proofs.YtbcdnbbpkikppaaDoor
end

section
namespace Go.Vec
/-- The row behind a row: v(k) = up(k) + v(k-1) + up(k-1), from v(0) = 1 on. -/
def rowFrom : Nat → Nat → List Nat → List Nat
  | last, upLast, u :: us => (u + last + upLast) :: rowFrom (u + last + upLast) u us
  | _, _, [] => []
def nextRow : List Nat → List Nat
  | u :: us => 1 :: rowFrom 1 u us
  | [] => []
def row : Nat → List Nat
  | 0 => 1 :: List.replicate 32 0
  | n + 1 => nextRow (row n)
def all : List (List Nat) := (List.range 17).map row
/-- V(n, k), n up to 16, k up to 32. -/
def v (n k : Nat) : Nat := ((row n).getD k 0)
theorem v_rec : ∀ n : Fin 16, ∀ k : Fin 32, v (n.val + 1) (k.val + 1) = v n.val (k.val + 1) + v (n.val + 1) k.val + v n.val k.val := by decide +kernel
theorem v_zero : ∀ n : Fin 17, v n.val 0 = 1 := by decide +kernel
theorem v_le : ∀ n : Fin 17, ∀ k : Fin 33, v n.val k.val ≤ 100000000000000000 := by decide +kernel
/-- V of any whole numbers: 0 outside. -/
def vF (n k : Int) : Int := if 0 ≤ n ∧ n ≤ 16 ∧ 0 ≤ k ∧ k ≤ 32 then (v n.toNat k.toNat : Nat) else 0
theorem vF_out (n k : Int) (h : ¬(0 ≤ n ∧ n ≤ 16 ∧ 0 ≤ k ∧ k ≤ 32)) : vF n k = 0 := by unfold vF; rw [if_neg h]
end Go.Vec
end

section
namespace Go
open Go.RowKit
theorem run_index_one {P : Program} (t e : TypeId) (n : Nat) (cs : Array Value) (k : Nat) (x : Value) (d : TypeDesc) (h : P.underlying t = some (.array n e)) (he : P.underlying e = some d) (hd : (∀ fs, d ≠ .struct fs) ∧ (∀ m f, d ≠ .array m f)) (hi : (P.info? e).map (·.size) = some 1) (hk : k < n) (hx : cs[k]? = some x) (w : World) :
    (Instr.index t (.agg cs) (.int .i64 k)).run P w = .ok x w := by
  have hagg : (isAgg e).run P w = .ok false w := by
    unfold isAgg
    rw [Sem.run_bind, run_underlying he w]
    cases d <;> simp_all
  cases hq : P.info? e with
  | none => simp [hq] at hi
  | some i =>
    have hs : i.size = 1 := by simpa [hq] using hi
    unfold Instr.index
    simp [Sem.run_bind, asIntOf, run_underlying h, hagg, sizeOf, typeInfo, hq, hs, part, hx, go_sem]
    omega
end Go
end

section
namespace Go.Proofs.YtbcdnbbpkikppaaDoor
open Go.RowKit Go.BigFrame Go.Vec
set_option linter.unusedSimpArgs false
def tabZ : Array Value := Array.replicate 1139 (.int .u64 0)
theorem tab_zero : ∃ cs, (∀ w, (zeroValue 161).run Tryd.prog w = .ok (.agg cs) w) ∧ cs.size = 1139 ∧ ∀ i, i < 1139 → cs[i]? = some (.int .u64 0) := by
  refine ⟨tabZ, fun _ => by kernel_rfl, by unfold tabZ; simp, fun i hi => ?_⟩
  unfold tabZ
  simp [hi]
/-- What stands in the table: V, and what V add up to. -/
def sm (n : Nat) : Nat → Nat
  | 0 => 0
  | k + 1 => sm n k + v n k
def tabG (i j : Nat) : Nat := if j < 33 then v i j else sm i (j - 33)
theorem tabG_le : ∀ i : Fin 17, ∀ j : Fin 67, tabG i.val j.val ≤ 4000000000000000000 := by decide +kernel
/-- Cells that are whole numbers; those that D names are as they shall be. -/
structure TabSt (cs : Array Value) (D : Nat → Nat → Prop) : Prop where
  size : cs.size = 1139
  at_ : ∀ i j, i < 17 → j < 67 → ∃ y : Int, cs[i * 67 + j]? = some (.int .u64 y) ∧ (D i j → y = (tabG i j : Nat))
theorem TabSt.done {cs : Array Value} {D : Nat → Nat → Prop} (h : TabSt cs D) (i j : Nat) (hi : i < 17) (hj : j < 67) (hd : D i j) : cs[i * 67 + j]? = some (.int .u64 (tabG i j : Nat)) := by
  obtain ⟨y, h1, h2⟩ := h.at_ i j hi hj
  rw [h1, h2 hd]
theorem TabSt.imp {cs : Array Value} {D D' : Nat → Nat → Prop} (h : TabSt cs D) (hd : ∀ i j, i < 17 → j < 67 → D' i j → D i j) : TabSt cs D' :=
  ⟨h.size, fun i j hi hj => by
    obtain ⟨y, h1, h2⟩ := h.at_ i j hi hj
    exact ⟨y, h1, fun d => h2 (hd i j hi hj d)⟩⟩
theorem TabSt.set {cs : Array Value} {D D' : Nat → Nat → Prop} (h : TabSt cs D) (i0 j0 : Nat) (hi : i0 < 17) (hj : j0 < 67) (x : Int) (hx : x = (tabG i0 j0 : Nat)) (o : Nat) (ho : o = i0 * 67 + j0)
    (hd : ∀ i j, i < 17 → j < 67 → D' i j → D i j ∨ (i = i0 ∧ j = j0)) : TabSt (cs.setIfInBounds o (.int .u64 x)) D' := by
  subst ho hx
  refine ⟨by simp [h.size], fun i j hi' hj' => ?_⟩
  by_cases e : i = i0 ∧ j = j0
  · obtain ⟨rfl, rfl⟩ := e
    exact ⟨_, Array.getElem?_setIfInBounds_self_of_lt (by rw [h.size]; omega), fun _ => rfl⟩
  · obtain ⟨y, h1, h2⟩ := h.at_ i j hi' hj'
    refine ⟨y, ?_, fun d => ?_⟩
    · rw [Array.getElem?_setIfInBounds_ne (by omega)]; exact h1
    · rcases hd i j hi' hj' d with d | d
      · exact h2 d
      · exact absurd d e
theorem tab_row0 : ∀ k : Fin 33, tabG 0 k.val = if k.val = 0 then 1 else 0 := by decide +kernel
def DO (n i j : Nat) : Prop := i < n ∨ (i = 0 ∧ j < 33) ∨ j = 33
def DV (n k i j : Nat) : Prop := DO n i j ∨ (i = n ∧ j < k)
def DS (n k i j : Nat) : Prop := DO n i j ∨ (i = n ∧ j < 34 + k)
theorem tab_first (cs : Array Value) (hs : cs.size = 1139) (h : ∀ i, i < 1139 → cs[i]? = some (.int .u64 0)) : TabSt (cs.setIfInBounds 0 (.int .u64 1)) (DO 0) := by
  refine ⟨by simp [hs], fun i j hi hj => ?_⟩
  by_cases e : i * 67 + j = 0
  · have e1 : i = 0 := by omega
    have e2 : j = 0 := by omega
    subst e1 e2
    exact ⟨1, Array.getElem?_setIfInBounds_self_of_lt (by rw [hs]; omega), fun _ => rfl⟩
  · refine ⟨0, by rw [Array.getElem?_setIfInBounds_ne (by omega)]; exact h _ (by omega), fun d => ?_⟩
    unfold DO at d
    rcases d with d | ⟨rfl, d⟩ | rfl
    · omega
    · have := tab_row0 ⟨j, d⟩
      simp only at this
      rw [this, if_neg (by omega)]
      rfl
    · simp [tabG, sm]
theorem tab_next (n k : Nat) (hn : n < 17) (hk : k < 33) : IntKind.u64.wrap ((tabG n (33 + k) : Nat) + (v n k : Nat) : Int) = (tabG n (33 + (k + 1)) : Nat) := by
  have h := tabG_le ⟨n, hn⟩ ⟨33 + (k + 1), by omega⟩
  simp only [tabG, if_neg (show ¬33 + (k + 1) < 33 by omega), if_neg (show ¬33 + k < 33 by omega), show 33 + (k + 1) - 33 = k + 1 by omega, show 33 + k - 33 = k by omega] at *
  simp only [sm] at *
  rw [IntKind.wrap_u64]
  omega
/-- A table lies at block b. -/
def TableOK (b : Nat) (w : World) : Prop := ∃ cs, w.heap[b]? = some (.cells cs 161 (0, 0)) ∧ TabSt cs (DO 17)
theorem TableOK.below {b B : Nat} {w w' : World} (h : TableOK b w) (hb : b < B) (hw : Below B w w') : TableOK b w' := by
  obtain ⟨cs, h1, h2⟩ := h
  exact ⟨cs, (hw.block b hb).trans h1, h2⟩
theorem tab_rec (n k : Nat) (hn0 : 1 ≤ n) (hn : n < 17) (hk0 : 1 ≤ k) (hk : k < 33) : IntKind.u64.wrap (IntKind.u64.wrap ((tabG (n - 1) k : Nat) + (tabG n (k - 1) : Nat) : Int) + (tabG (n - 1) (k - 1) : Nat)) = (tabG n k : Nat) := by
  have h := v_rec ⟨n - 1, by omega⟩ ⟨k - 1, by omega⟩
  have h1 := v_le ⟨n, hn⟩ ⟨k, hk⟩
  simp only [show n - 1 + 1 = n by omega, show k - 1 + 1 = k by omega] at h h1
  simp only [tabG, if_pos hk, if_pos (show k - 1 < 33 by omega)]
  rw [IntKind.wrap_u64, IntKind.wrap_u64]
  omega
theorem tab_one (n : Nat) (hn : n < 17) : tabG n 0 = 1 := by
  have := v_zero ⟨n, hn⟩
  simpa [tabG] using this
set_option maxRecDepth 100000 in
theorem tabNew (w : World) : Calls Tryd.prog 52 #[] w fun e w' => ∃ b, e = .returned (.pointer (some ⟨b, 0, none⟩)) ∧ w.heap.size ≤ b ∧ TableOK b w' ∧ Below w.heap.size w w' := by
  obtain ⟨cs, hz, hsz, hfz⟩ := tab_zero
  have hS := Lib.hid (tab_first cs hsz hfz)
  have h0 := hfz 0 (by omega)
  clear hfz
  go_enter Tryd.func52, Tryd.ntmps52
  go_wp2
  clear h0 hz hsz
  go_loopw [16] (fun cnt wr => ∃ n : Nat, n ≤ 17 ∧ cnt = .int .i64 n ∧ ∃ cs x, TabSt cs (DO n) ∧ wr = (w.alloc (.cells cs 161)).grew x) (fun cnt _ => 17 - (intOf cnt).toNat)
  case atStart => exact ⟨0, by omega, rfl, _, _, hS.out, (World.grew_none _).symm⟩
  case round =>
    obtain ⟨n, hn, rfl, cs2, x2, hT, rfl⟩ := hrel
    by_cases hlt : n < 17
    · have hlt' : (n : Int) < 17 := by omega
      have hsz := hT.size
      by_cases hn0 : (0 : Int) < n
      · have hn0' : ¬(n : Int) ≤ 0 := by omega
        have hn1 : (0 : Int) ≤ (n : Int) - 1 := by omega
        have hn2 : ((n : Int) - 1) < 17 := by omega
        obtain ⟨y0, f0, _⟩ := hT.at_ n 0 (by omega) (by omega)
        have hsz := hT.size
        rw [Nat.add_zero] at f0
        go_wp2_with fail
        go_loopw [5] (fun cnt wr => ∃ k : Nat, 1 ≤ k ∧ k ≤ 33 ∧ cnt = .int .i64 k ∧ ∃ cs x, TabSt cs (DV n k) ∧ wr = (w.alloc (.cells cs 161)).grew x) (fun cnt _ => 33 - (intOf cnt).toNat)
        case atStart => exact ⟨1, by omega, by omega, rfl, _, _, hT.set n 0 (by omega) (by omega) _ (by rw [tab_one n (by omega)]; rfl) _ (by omega) fun i j hi hj d => by
            unfold DV DO at *
            omega, rfl⟩
        case round =>
          obtain ⟨k, hk1, hk, rfl, csv, xv, hTv, rfl⟩ := hrel
          by_cases hkl : k < 33
          · have hkl' : (k : Int) < 33 := by omega
            have hsv := hTv.size
            have hk0 : (0 : Int) ≤ (k : Int) - 1 := by omega
            have hk33 : (k : Int) - 1 < 33 := by omega
            have u1 := hTv.done (n - 1) k (by omega) (by omega) (by unfold DV DO; omega)
            have u2 := hTv.done n (k - 1) (by omega) (by omega) (by unfold DV DO; omega)
            have u3 := hTv.done (n - 1) (k - 1) (by omega) (by omega) (by unfold DV DO; omega)
            obtain ⟨y, c2, _⟩ := hTv.at_ n k (by omega) (by omega)
            have E := Lib.hid (tab_rec n k (by omega) hlt hk1 hkl)
            go_wp2_with fail
            first | refine wp_region_grew2 27 (by kernel_rfl) (by kernel_rfl) ?_ | refine wp_region_grew 27 (by kernel_rfl) (by kernel_rfl) ?_
            simp only [List.take_succ_cons, List.take_zero, List.drop_succ_cons, List.drop_zero]
            repeat (go_big_quiet_step (fail))
            refine wpQuiet_nil ?_
            rintro _ ⟨x, rfl⟩
            go_wp2
            go_roundw
            case rel => exact ⟨k + 1, by omega, by omega, by go_num, _, _, hTv.set n k (by omega) (by omega) _ E.out _ (by omega) fun i j hi hj d => by
              unfold DV DO at *
              omega, rfl⟩
            case measure => simp [intOf]; omega
          · have hkl' : ¬(k : Int) < 33 := by omega
            have hT2 : TabSt csv (DV n 33) := hTv.imp fun i j hi hj d => by
              unfold DV DO at *
              omega
            have hsv := hTv.size
            obtain ⟨row, hrow⟩ : ∃ row : List Value, row = (List.range 33).map fun k => Value.int .u64 (v n k : Nat) := ⟨_, rfl⟩
            have hrl : row.length = 33 := by rw [hrow]; simp
            have hra : ∀ k, k < 33 → row[k]? = some (.int .u64 (v n k : Nat)) := fun k hk => by rw [hrow]; simp [hk]
            have hrg : ((w.alloc (.cells csv 161)).grew xv).rangeAt w.heap.size (n * 67) row := by
              intro j y hy
              have hj : j < 33 := by
                have := (List.getElem?_eq_some_iff.1 hy).1
                omega
              have h1 := hT2.done n j (by omega) (by omega) (.inr ⟨rfl, hj⟩)
              rw [hra j hj] at hy
              rw [← Option.some.inj hy]
              simp only [tabG, if_pos hj] at h1
              simp [go_sem, h1]
            have HR := Lib.hid hra
            have HG := Lib.hid hrg
            have hrl0 := hrl
            have hrs : row.toArray.size = 33 := by simpa using hrl
            clear hrow hra hrg hrl
            go_wp2_with (refine wpList_load_mid rfl 155 _ rfl w.heap.size (n * 67) rfl row _ HG.out Tryd.underlying155 rfl (by rw [hrl0]; kernel_rfl) ?_)
            go_loopw [71] (fun cnt wr => ∃ k : Nat, k ≤ 33 ∧ cnt = .int .i64 k ∧ ∃ cs x, TabSt cs (DS n k) ∧ wr = (w.alloc (.cells cs 161)).grew x) (fun cnt _ => 33 - (intOf cnt).toNat)
            case atStart => exact ⟨0, by omega, rfl, _, _, hT2.imp fun i j hi hj d => by
                unfold DS DO DV at *
                unfold DO at *
                omega, rfl⟩
            case round =>
              obtain ⟨k, hk, rfl, cs3, x3, hT3, rfl⟩ := hrel
              by_cases hkl : k < 33
              · have hkl' : (k : Int) < 33 := by omega
                have hsz3 := hT3.size
                have hrk := HR.out k hkl
                have hix := run_index_one (P := Tryd.prog) 155 64 33 row.toArray k _ _ Tryd.underlying155 Tryd.underlying64 (by refine ⟨fun _ h => ?_, fun _ _ h => ?_⟩ <;> cases h) (by kernel_rfl) hkl (by rw [List.getElem?_toArray]; exact hrk)
                have c1 := hT3.done n (33 + k) (by omega) (by omega) (by unfold DS; omega)
                obtain ⟨y, c2, _⟩ := hT3.at_ n (33 + (k + 1)) (by omega) (by omega)
                have E := Lib.hid (tab_next n k (by omega) hkl)
                rw [← Nat.add_assoc] at c1 c2
                go_wp2_with fail
                first | refine wp_region_grew2 14 (by kernel_rfl) (by kernel_rfl) ?_ | refine wp_region_grew 14 (by kernel_rfl) (by kernel_rfl) ?_
                simp only [List.take_succ_cons, List.take_zero, List.drop_succ_cons, List.drop_zero]
                repeat (go_big_quiet_step (fail))
                refine wpQuiet_nil ?_
                rintro _ ⟨x, rfl⟩
                go_wp2
                go_roundw
                case rel => exact ⟨k + 1, by omega, by go_num, _, _, hT3.set n (33 + (k + 1)) (by omega) (by omega) _ E.out _ (by omega) fun i j hi hj d => by
                  unfold DS DO at *
                  omega, rfl⟩
                case measure => simp [intOf]; omega
              · have hkl' : ¬(k : Int) < 33 := by omega
                go_wp2
                go_roundw
                case rel => exact ⟨n + 1, by omega, by go_num, _, _, hT3.imp fun i j hi hj d => by
                  unfold DS
                  unfold DO at *
                  omega, rfl⟩
                case measure => simp [intOf]; omega
      · have hT2 : TabSt cs2 (DV n 33) := hT.imp fun i j hi hj d => by
          unfold DV at d
          unfold DO at *
          omega
        obtain ⟨row, hrow⟩ : ∃ row : List Value, row = (List.range 33).map fun k => Value.int .u64 (v n k : Nat) := ⟨_, rfl⟩
        have hrl : row.length = 33 := by rw [hrow]; simp
        have hra : ∀ k, k < 33 → row[k]? = some (.int .u64 (v n k : Nat)) := fun k hk => by rw [hrow]; simp [hk]
        have hrg : ((w.alloc (.cells cs2 161)).grew x2).rangeAt w.heap.size (n * 67) row := by
          intro j y hy
          have hj : j < 33 := by
            have := (List.getElem?_eq_some_iff.1 hy).1
            omega
          have h1 := hT2.done n j (by omega) (by omega) (.inr ⟨rfl, hj⟩)
          rw [hra j hj] at hy
          rw [← Option.some.inj hy]
          simp only [tabG, if_pos hj] at h1
          simp [go_sem, h1]
        have HR := Lib.hid hra
        have HG := Lib.hid hrg
        have hrl0 := hrl
        have hrs : row.toArray.size = 33 := by simpa using hrl
        clear hrow hra hrg hrl
        go_wp2_with (refine wpList_load_mid rfl 155 _ rfl w.heap.size (n * 67) rfl row _ HG.out Tryd.underlying155 rfl (by rw [hrl0]; kernel_rfl) ?_)
        go_loopw [71] (fun cnt wr => ∃ k : Nat, k ≤ 33 ∧ cnt = .int .i64 k ∧ ∃ cs x, TabSt cs (DS n k) ∧ wr = (w.alloc (.cells cs 161)).grew x) (fun cnt _ => 33 - (intOf cnt).toNat)
        case atStart => exact ⟨0, by omega, rfl, _, _, hT2.imp fun i j hi hj d => by
            unfold DS DO DV at *
            unfold DO at *
            omega, rfl⟩
        case round =>
          obtain ⟨k, hk, rfl, cs3, x3, hT3, rfl⟩ := hrel
          by_cases hkl : k < 33
          · have hkl' : (k : Int) < 33 := by omega
            have hsz3 := hT3.size
            have hrk := HR.out k hkl
            have hix := run_index_one (P := Tryd.prog) 155 64 33 row.toArray k _ _ Tryd.underlying155 Tryd.underlying64 (by refine ⟨fun _ h => ?_, fun _ _ h => ?_⟩ <;> cases h) (by kernel_rfl) hkl (by rw [List.getElem?_toArray]; exact hrk)
            have c1 := hT3.done n (33 + k) (by omega) (by omega) (by unfold DS; omega)
            obtain ⟨y, c2, _⟩ := hT3.at_ n (33 + (k + 1)) (by omega) (by omega)
            have E := Lib.hid (tab_next n k (by omega) hkl)
            rw [← Nat.add_assoc] at c1 c2
            go_wp2_with fail
            first | refine wp_region_grew2 14 (by kernel_rfl) (by kernel_rfl) ?_ | refine wp_region_grew 14 (by kernel_rfl) (by kernel_rfl) ?_
            simp only [List.take_succ_cons, List.take_zero, List.drop_succ_cons, List.drop_zero]
            repeat (go_big_quiet_step (fail))
            refine wpQuiet_nil ?_
            rintro _ ⟨x, rfl⟩
            go_wp2
            go_roundw
            case rel => exact ⟨k + 1, by omega, by go_num, _, _, hT3.set n (33 + (k + 1)) (by omega) (by omega) _ E.out _ (by omega) fun i j hi hj d => by
              unfold DS DO at *
              omega, rfl⟩
            case measure => simp [intOf]; omega
          · have hkl' : ¬(k : Int) < 33 := by omega
            go_wp2
            go_roundw
            case rel => exact ⟨n + 1, by omega, by go_num, _, _, hT3.imp fun i j hi hj d => by
              unfold DS
              unfold DO at *
              omega, rfl⟩
            case measure => simp [intOf]; omega
    · have hlt' : ¬(n : Int) < 17 := by omega
      go_wp2
      go_ret
      obtain rfl : n = 17 := by omega
      refine ⟨w.heap.size, rfl, Nat.le_refl _, ⟨cs2, ?_, hT⟩, by (repeat' (first | (with_reducible exact Below.refl _ _) | (with_reducible assumption) | (with_reducible refine Below.alloc ?_ ?_ _) | (with_reducible refine below_grew ?_ ?_ _) | (with_reducible refine Below.setCell ?_ ?_ _) | (with_reducible refine Below.drew ?_) | (with_reducible refine below_drewN ?_ _) | omega | (simp; done) | (simp; omega)))⟩
      rw [World.grew_block _ _ _ (by simp)]
      exact heap_alloc_new w _
end Go.Proofs.YtbcdnbbpkikppaaDoor
end

section
namespace Go.Proofs.YtbcdnbbpkikppaaDoor
open Go.RowKit Go.BigFrame Go.Vec
set_option linter.unusedSimpArgs false
theorem tabV_in (b : Nat) (w : World) (hT : TableOK b w) (n k : Nat) (hn : n < 17) (hk : k < 33) : Calls Tryd.prog 80 #[.pointer (some ⟨b, 0, none⟩), .int .i64 n, .int .i64 k] w fun e w' => e = .returned (.int .u64 (vF n k)) ∧ w = w' := by
  obtain ⟨cs, hc, hS⟩ := hT
  have h1 := hS.done n k hn (by omega) (by unfold DO; omega)
  have h2 : w.cell? ⟨b, n * 67 + k, none⟩ = some (.int .u64 (tabG n k : Nat)) := by simp [World.cell?, hc, h1]
  have E := Lib.hid (show ((tabG n k : Nat) : Int) = vF n k from by unfold tabG vF; rw [if_pos hk, if_pos (by omega)]; simp)
  have i1 : ¬(n : Int) < 0 := by omega
  have i2 : (n : Int) ≤ 16 := by omega
  have i3 : ¬(k : Int) < 0 := by omega
  have i4 : (k : Int) ≤ 32 := by omega
  clear h1 hc hS
  go_enter Tryd.func80, Tryd.ntmps80
  go_wp2
  go_ret
  exact ⟨ret_int E.out, rfl⟩
theorem tabV (b : Nat) (w : World) (hT : TableOK b w) (n k : Int) : Calls Tryd.prog 80 #[.pointer (some ⟨b, 0, none⟩), .int .i64 n, .int .i64 k] w fun e w' => e = .returned (.int .u64 (vF n k)) ∧ w = w' := by
  by_cases h1 : 0 ≤ n
  · by_cases h2 : n ≤ 16
    · by_cases h3 : 0 ≤ k
      · by_cases h4 : k ≤ 32
        · obtain ⟨N, rfl⟩ := Int.eq_ofNat_of_zero_le h1
          obtain ⟨K, rfl⟩ := Int.eq_ofNat_of_zero_le h3
          exact tabV_in b w hT N K (by omega) (by omega)
        · have E := Lib.hid (vF_out n k (by omega))
          go_enter Tryd.func80, Tryd.ntmps80
          go_wp2
          go_ret
          exact ⟨ret_int E.out.symm, rfl⟩
      · have E := Lib.hid (vF_out n k (by omega))
        go_enter Tryd.func80, Tryd.ntmps80
        go_wp2
        go_ret
        exact ⟨ret_int E.out.symm, rfl⟩
    · have E := Lib.hid (vF_out n k (by omega))
      go_enter Tryd.func80, Tryd.ntmps80
      go_wp2
      go_ret
      exact ⟨ret_int E.out.symm, rfl⟩
  · have E := Lib.hid (vF_out n k (by omega))
    go_enter Tryd.func80, Tryd.ntmps80
    go_wp2
    go_ret
    exact ⟨ret_int E.out.symm, rfl⟩
end Go.Proofs.YtbcdnbbpkikppaaDoor
end

section
namespace Go.Cost
open Go.Vec
def capS (n : Nat) : Nat := ((List.range 32).takeWhile fun k => decide (v n (k + 1) ≤ 1048576)).length
def cap (n : Nat) : Nat := if n ≤ 8 then capS n else min (capS (n / 2)) (capS (n - n / 2))
def bitsS (n k : Nat) : Nat := if k = 0 then 0 else Lib.bitLen (v n k - 1) + 1
def mx (n k : Nat) : Nat → Nat
  | 0 => 0
  | a + 1 => max (mx n k a) (bitsS (n / 2) a + bitsS (n - n / 2) (k - a))
def pays (n k : Nat) : Nat := if k = 0 then 0 else if n ≤ 8 then bitsS n k else Lib.bitLen k + 1 + mx n k (k + 1)
theorem cap_le : ∀ n : Fin 17, cap n.val ≤ 32 := by decide +kernel
theorem pays_le : ∀ n : Fin 17, ∀ k : Fin 33, pays n.val k.val ≤ 200 := by decide +kernel
theorem bitsS_le : ∀ n : Fin 17, ∀ k : Fin 33, bitsS n.val k.val ≤ 100 := by decide +kernel
theorem v_pos : ∀ n : Fin 16, ∀ k : Fin 32, 2 ≤ v (n.val + 1) (k.val + 1) := by decide +kernel
theorem mx_le (n k : Nat) (hn : n ≤ 16) (hk : k ≤ 32) : ∀ a, a ≤ k + 1 → mx n k a ≤ 200
  | 0, _ => by simp [mx]
  | a + 1, h => by
    have h1 := mx_le n k hn hk a (by omega)
    have h2 := bitsS_le ⟨n / 2, by omega⟩ ⟨a, by omega⟩
    have h3 := bitsS_le ⟨n - n / 2, by omega⟩ ⟨k - a, by omega⟩
    simp only at h2 h3
    simp only [mx]
    omega
/-- The greatest number of pulses: -1 outside. -/
def capF (n : Int) : Int := if 1 ≤ n ∧ n ≤ 16 then (cap n.toNat : Nat) else -1
/-- What pulses cost: -1 outside. -/
def bitsF (n k : Int) : Int := if 0 ≤ k ∧ k ≤ capF n then (pays n.toNat k.toNat : Nat) else -1
theorem pays_small (n k : Int) (hn : 1 ≤ n ∧ n ≤ 8) (hk : 1 ≤ k ∧ k ≤ 32) : (pays n.toNat k.toNat : Nat) = (Lib.bitLen (IntKind.u64.wrap (vF n k - 1)).toNat : Nat) + 1 := by
  unfold pays bitsS vF
  have := v_pos ⟨(n - 1).toNat, by omega⟩ ⟨(k - 1).toNat, by omega⟩
  have hle := v_le ⟨n.toNat, by omega⟩ ⟨k.toNat, by omega⟩
  simp only at this hle
  rw [show (n - 1).toNat + 1 = n.toNat by omega, show (k - 1).toNat + 1 = k.toNat by omega] at this
  rw [if_neg (by omega), if_pos (by omega), if_neg (by omega), if_pos (by omega), IntKind.wrap_u64]
  congr 2
  omega
theorem pays_eqS (n k : Nat) (hn : n ≤ 8) : pays n k = bitsS n k := by
  unfold pays bitsS
  by_cases h : k = 0
  · rw [if_pos h, if_pos h]
  · rw [if_neg h, if_neg h, if_pos hn]
theorem mx_step (n k : Int) (a : Nat) (hn : 9 ≤ n ∧ n ≤ 16) (ha : a ≤ k.toNat) (h0 : 0 ≤ k) :
    mx n.toNat k.toNat (a + 1) = max (mx n.toNat k.toNat a) (pays (n / 2).toNat a + pays (n - n / 2).toNat (k - a).toNat) := by
  rw [pays_eqS _ _ (by omega), pays_eqS _ _ (by omega)]
  simp only [mx]
  rw [show (n / 2).toNat = n.toNat / 2 by omega, show (n - n / 2).toNat = n.toNat - n.toNat / 2 by omega, show (k - a).toNat = k.toNat - a by omega]
theorem pays_wide (n k : Int) (hn : 9 ≤ n ∧ n ≤ 16) (hk : 1 ≤ k ∧ k ≤ 32) : (pays n.toNat k.toNat : Nat) = ((Lib.bitLen k.toNat : Nat) : Int) + 1 + ((mx n.toNat k.toNat (k.toNat + 1) : Nat) : Int) := by
  unfold pays
  rw [if_neg (by omega), if_neg (by omega)]
  omega
end Go.Cost
end

section
set_option linter.unusedSimpArgs false
namespace Go.Proofs.YtbcdnbbpkikppaaDoor
open Go.RowKit Go.BigFrame
theorem len_run (x : Int) (w : World) (h0 : 0 ≤ x) (h1 : x ≤ 18446744073709551615) :
    Calls Tryd.prog 102 #[.int .u64 x] w fun e w' => e = .returned (.int .i64 (Lib.bitLen x.toNat)) ∧ w = w' := (Tryd.bits_Len x w h0 h1).mono fun _ _ ⟨a, b⟩ => ⟨a, b.symm⟩
theorem len64_run (x : Int) (w : World) (h0 : 0 ≤ x) (h1 : x ≤ 18446744073709551615) :
    Calls Tryd.prog 101 #[.int .u64 x] w fun e w' => e = .returned (.int .i64 (Lib.bitLen x.toNat)) ∧ w = w' := (Tryd.bits_Len64 x w h0 h1).mono fun _ _ ⟨a, b⟩ => ⟨a, b.symm⟩
end Go.Proofs.YtbcdnbbpkikppaaDoor
end

section
namespace Go.Proofs.YtbcdnbbpkikppaaDoor
open Go.RowKit Go.BigFrame Go.Vec Go.Cost
set_option linter.unusedSimpArgs false
theorem work_small (s t : Nat) (w : World) (hT : TableOK t w) (n k : Int) (hn : 1 ≤ n ∧ n ≤ 8) (hk : 1 ≤ k ∧ k ≤ 32) :
    Calls Tryd.prog 81 #[.pointer (some ⟨s, 0, none⟩), .pointer (some ⟨t, 0, none⟩), .int .i64 n, .int .i64 k] w fun e w' => e = .returned (.int .i64 ((pays n.toNat k.toNat : Nat) : Int)) ∧ w = w' := by
  have HV := Lib.hid (tabV t w hT n k)
  have E := Lib.hid (pays_small n k hn hk)
  have hl := Lib.hid (fun w => len64_run (IntKind.u64.wrap (vF n k - 1)) w (by rw [IntKind.wrap_u64]; omega) (by rw [IntKind.wrap_u64]; omega))
  have hbd : (Lib.bitLen (IntKind.u64.wrap (vF n k - 1)).toNat : Int) ≤ 200 := by
    have := pays_le ⟨n.toNat, by omega⟩ ⟨k.toNat, by omega⟩
    have e := E.out
    simp only at this
    omega
  obtain ⟨n1, n2⟩ := hn
  obtain ⟨k1, k2⟩ := hk
  clear hT
  go_enter Tryd.func81, Tryd.ntmps81
  go_wp2_with (first | (go_at_call 80; refine HV.out.mono ?_; rintro e w' ⟨rfl, rfl⟩) | (go_at_call 101; refine (hl.out _).mono ?_; rintro e w' ⟨rfl, rfl⟩))
  go_ret
  exact ⟨ret_int (by rw [E.out]; omega), rfl⟩
theorem pays_100 (n k : Nat) (hn : n ≤ 16) (hk : k ≤ 32) : pays n k ≤ 200 := by
  have := pays_le ⟨n, by omega⟩ ⟨k, by omega⟩
  simpa using this
theorem work_wide (s t : Nat) (w : World) (n k : Nat) (hn : 9 ≤ n ∧ n ≤ 16) (hk : 1 ≤ k ∧ k ≤ 32) (hb : s < w.heap.size)
    (hS : ∀ i j, (i = n / 2 ∨ i = n - n / 2) → j ≤ k → w.cell? ⟨s, 17 + i * 33 + j, none⟩ = some (.int .i64 (pays i j : Nat))) :
    Calls Tryd.prog 81 #[.pointer (some ⟨s, 0, none⟩), .pointer (some ⟨t, 0, none⟩), .int .i64 n, .int .i64 k] w fun e w' => e = .returned (.int .i64 ((pays n k : Nat) : Int)) ∧ Below w.heap.size w w' := by
  have hl := Lib.hid (fun w => len_run (k : Int) w (by omega) (by omega))
  have hM := Lib.hid (fun (a : Nat) ha => mx_step n k a (by omega) ha (by omega))
  have hMb := Lib.hid (mx_le n k (by omega) (by omega))
  have E := Lib.hid (pays_wide n k (by omega) (by omega))
  have HS := Lib.hid hS
  have hlb : (Lib.bitLen k : Int) ≤ 200 := by
    have := pays_100 n k (by omega) (by omega)
    have e := E.out
    simp only [Int.toNat_natCast] at e
    omega
  have hM0 : mx n k 0 = 0 := rfl
  simp only [Int.toNat_natCast] at hM E
  generalize mx n k = M at *
  obtain ⟨n1, n2⟩ := hn
  obtain ⟨k1, k2⟩ := hk
  have n1' : ¬(n : Int) ≤ 8 := by omega
  clear hS
  go_enter Tryd.func81, Tryd.ntmps81
  go_wp2
  go_loopw [9, 22] (fun most cnt wr => ∃ a : Nat, a ≤ k + 1 ∧ cnt = .int .i64 a ∧ most = .int .i64 (M a : Nat) ∧ ∃ x, wr = w.grew x) (fun _ cnt _ => k + 1 - (intOf cnt).toNat)
  case atStart => exact ⟨0, by omega, rfl, by rw [hM0]; rfl, World.as_grew _⟩
  case round =>
    obtain ⟨a, ha, rfl, rfl, x, rfl⟩ := hrel
    by_cases hlt : a < k + 1
    · have hlt' : (a : Int) < (k : Int) + 1 := by omega
      have m1 := hMb.out a (by omega)
      have c1 := HS.out (n / 2) a (.inl rfl) (by omega)
      have c2 := HS.out (n - n / 2) (k - a) (.inr rfl) (by omega)
      have p1 := pays_100 (n / 2) a (by omega) (by omega)
      have p2 := pays_100 (n - n / 2) (k - a) (by omega) (by omega)
      have e : M (a + 1) = max (M a) (pays (n / 2) a + pays (n - n / 2) (k - a)) := by
        have e := hM.out a (by omega)
        rw [show ((n : Int) / 2).toNat = n / 2 by omega, show ((n : Int) - (n : Int) / 2).toNat = n - n / 2 by omega, show ((k : Int) - (a : Int)).toNat = k - a by omega] at e
        exact e
      go_wp2_with fail
      first | refine wp_region_grew_all2 (by kernel_rfl) (by kernel_rfl) ?_ | refine wp_region_grew_all (by kernel_rfl) (by kernel_rfl) ?_
      repeat (go_big_quiet_step (fail))
      refine wpQuiet_nil ?_
      rintro _ ⟨x, rfl⟩
      go_wp2
      go_roundw
      case rel => exact ⟨a + 1, by omega, by go_num, by rw [e]; congr 1; omega, _, rfl⟩
      case measure => simp [intOf]; omega
    · have hlt' : ¬(a : Int) < (k : Int) + 1 := by omega
      have m1 := hMb.out a (by omega)
      go_wp2_with (go_at_call 102; refine (hl.out _).mono ?_; rintro e w' ⟨rfl, rfl⟩)
      go_ret
      have hak : a = k + 1 := by omega
      exact ⟨ret_int (by rw [E.out, hak]), by (repeat' (first | (with_reducible exact Below.refl _ _) | (with_reducible assumption) | (with_reducible refine Below.alloc ?_ ?_ _) | (with_reducible refine below_grew ?_ ?_ _) | (with_reducible refine Below.setCell ?_ ?_ _) | (with_reducible refine Below.drew ?_) | (with_reducible refine below_drewN ?_ _) | omega | (simp; done) | (simp; omega)))⟩
theorem work_any (s t : Nat) (w : World) (hT : TableOK t w) (n k : Nat) (hn : 1 ≤ n ∧ n ≤ 16) (hk : 1 ≤ k ∧ k ≤ 32) (hb : s < w.heap.size)
    (hS : 9 ≤ n → ∀ i j, (i = n / 2 ∨ i = n - n / 2) → j ≤ k → w.cell? ⟨s, 17 + i * 33 + j, none⟩ = some (.int .i64 (pays i j : Nat))) :
    Calls Tryd.prog 81 #[.pointer (some ⟨s, 0, none⟩), .pointer (some ⟨t, 0, none⟩), .int .i64 n, .int .i64 k] w fun e w' => e = .returned (.int .i64 ((pays n k : Nat) : Int)) ∧ Below w.heap.size w w' := by
  by_cases h : n ≤ 8
  · refine (work_small s t w hT n k (by omega) (by omega)).mono fun e w' ⟨h1, h2⟩ => ⟨by simpa using h1, by subst h2; exact Below.refl _ _⟩
  · exact work_wide s t w n k (by omega) hk hb (hS (by omega))
end Go.Proofs.YtbcdnbbpkikppaaDoor
end

section
namespace Go.Proofs.YtbcdnbbpkikppaaDoor
open Go.RowKit Go.BigFrame Go.Vec Go.Cost
set_option linter.unusedSimpArgs false
def capG (i : Nat) : Int := if i = 0 then -1 else (cap i : Nat)
structure ShSt (cs : Array Value) (C : Nat → Prop) (B : Nat → Nat → Prop) : Prop where
  size : cs.size = 578
  caps : ∀ i, i < 17 → ∃ y : Int, cs[i]? = some (.int .i64 y) ∧ (C i → y = capG i)
  bits : ∀ i j, i < 17 → j < 33 → ∃ y : Int, cs[17 + i * 33 + j]? = some (.int .i64 y) ∧ (B i j → y = (pays i j : Nat))
section
variable {cs : Array Value} {C C' : Nat → Prop} {B B' : Nat → Nat → Prop}
theorem ShSt.cap_done (h : ShSt cs C B) (i : Nat) (hi : i < 17) (hd : C i) : cs[i]? = some (.int .i64 (capG i)) := by
  obtain ⟨y, h1, h2⟩ := h.caps i hi
  rw [h1, h2 hd]
theorem ShSt.bits_done (h : ShSt cs C B) (i j : Nat) (hi : i < 17) (hj : j < 33) (hd : B i j) : cs[17 + i * 33 + j]? = some (.int .i64 (pays i j : Nat)) := by
  obtain ⟨y, h1, h2⟩ := h.bits i j hi hj
  rw [h1, h2 hd]
theorem ShSt.imp (h : ShSt cs C B) (hc : ∀ i, i < 17 → C' i → C i) (hb : ∀ i j, i < 17 → j < 33 → B' i j → B i j) : ShSt cs C' B' :=
  ⟨h.size, fun i hi => by
    obtain ⟨y, h1, h2⟩ := h.caps i hi
    exact ⟨y, h1, fun d => h2 (hc i hi d)⟩, fun i j hi hj => by
    obtain ⟨y, h1, h2⟩ := h.bits i j hi hj
    exact ⟨y, h1, fun d => h2 (hb i j hi hj d)⟩⟩
theorem ShSt.learn (h : ShSt cs C B) (i0 : Nat) (hv : cs[i0]? = some (.int .i64 (capG i0))) (hc : ∀ i, C' i → C i ∨ i = i0) : ShSt cs C' B :=
  ⟨h.size, fun i hi => by
    by_cases e : i = i0
    · subst e; exact ⟨_, hv, fun _ => rfl⟩
    · obtain ⟨y, h1, h2⟩ := h.caps i hi
      exact ⟨y, h1, fun d => h2 ((hc i d).resolve_right e)⟩, h.bits⟩
/-- A cap is set: to whatever ('C'' leaves it out) or to what it shall be. -/
theorem ShSt.set_cap (h : ShSt cs C B) (i0 : Nat) (hi : i0 < 17) (x : Int) (hx : C' i0 → x = capG i0) (hc : ∀ i, i < 17 → i ≠ i0 → C' i → C i) (hb : ∀ i j, i < 17 → j < 33 → B' i j → B i j) : ShSt (cs.setIfInBounds i0 (.int .i64 x)) C' B' := by
  refine ⟨by simp [h.size], fun i hi' => ?_, fun i j hi' hj' => ?_⟩
  · by_cases e : i = i0
    · subst e
      exact ⟨x, Array.getElem?_setIfInBounds_self_of_lt (by rw [h.size]; omega), hx⟩
    · obtain ⟨y, h1, h2⟩ := h.caps i hi'
      exact ⟨y, by rw [Array.getElem?_setIfInBounds_ne (by omega)]; exact h1, fun d => h2 (hc i hi' e d)⟩
  · obtain ⟨y, h1, h2⟩ := h.bits i j hi' hj'
    exact ⟨y, by rw [Array.getElem?_setIfInBounds_ne (by omega)]; exact h1, fun d => h2 (hb i j hi' hj' d)⟩
theorem ShSt.set_bits (h : ShSt cs C B) (i0 j0 : Nat) (hi : i0 < 17) (hj : j0 < 33) (x : Int) (hx : x = (pays i0 j0 : Nat)) (o : Nat) (ho : o = 17 + i0 * 33 + j0)
    (hc : ∀ i, i < 17 → C' i → C i) (hb : ∀ i j, i < 17 → j < 33 → B' i j → B i j ∨ (i = i0 ∧ j = j0)) : ShSt (cs.setIfInBounds o (.int .i64 x)) C' B' := by
  subst ho hx
  refine ⟨by simp [h.size], fun i hi' => ?_, fun i j hi' hj' => ?_⟩
  · obtain ⟨y, h1, h2⟩ := h.caps i hi'
    exact ⟨y, by rw [Array.getElem?_setIfInBounds_ne (by omega)]; exact h1, fun d => h2 (hc i hi' d)⟩
  · by_cases e : i = i0 ∧ j = j0
    · obtain ⟨rfl, rfl⟩ := e
      exact ⟨_, Array.getElem?_setIfInBounds_self_of_lt (by rw [h.size]; omega), fun _ => rfl⟩
    · obtain ⟨y, h1, h2⟩ := h.bits i j hi' hj'
      refine ⟨y, by rw [Array.getElem?_setIfInBounds_ne (by omega)]; exact h1, fun d => ?_⟩
      rcases hb i j hi' hj' d with d | d
      · exact h2 d
      · exact absurd d e
end
def ShC (n i : Nat) : Prop := i < n
def ShB (n i j : Nat) : Prop := j = 0 ∨ (1 ≤ i ∧ i < n ∧ j ≤ cap i)
def ShBk (n k i j : Nat) : Prop := ShB n i j ∨ (i = n ∧ j < k)
theorem ShBk.one {n i j : Nat} (d : ShBk n 1 i j) : ShB n i j := by
  unfold ShBk at d
  rcases d with d | d
  · exact d
  · exact .inl (by omega)
theorem sheet_first (cs : Array Value) (hs : cs.size = 578) (h : ∀ i, i < 578 → cs[i]? = some (.int .i64 0)) : ShSt (cs.setIfInBounds 0 (.int .i64 (-1))) (ShC 1) (ShB 1) := by
  have h0 : ShSt cs (fun _ => False) (ShB 1) := ⟨hs, fun i hi => ⟨0, h i (by omega), fun d => d.elim⟩, fun i j hi hj => ⟨0, h _ (by omega), fun d => by
    unfold ShB at d
    obtain rfl : j = 0 := by omega
    rfl⟩⟩
  exact h0.set_cap 0 (by omega) _ (fun _ => rfl) (fun i hi hne d => by unfold ShC at d; omega) (fun _ _ _ _ d => d)
def shZ : Array Value := Array.replicate 578 (.int .i64 0)
theorem sheet_zero : ∃ cs, (∀ w, (zeroValue 169).run Tryd.prog w = .ok (.agg cs) w) ∧ cs.size = 578 ∧ ∀ i, i < 578 → cs[i]? = some (.int .i64 0) := by
  refine ⟨shZ, fun _ => by kernel_rfl, by unfold shZ; simp, fun i hi => ?_⟩
  unfold shZ
  simp [hi]
/-- A sheet lies at block b. -/
def SheetOK (b : Nat) (w : World) : Prop := ∃ cs, w.heap[b]? = some (.cells cs 169 (0, 0)) ∧ ShSt cs (ShC 17) (ShB 17)
theorem SheetOK.below {b B : Nat} {w w' : World} (h : SheetOK b w) (hb : b < B) (hw : Below B w w') : SheetOK b w' := by
  obtain ⟨cs, h1, h2⟩ := h
  exact ⟨cs, (hw.block b hb).trans h1, h2⟩
theorem cap_over : ∀ n : Fin 8, ∀ c : Fin 33, (1048576 < v (n.val + 1) c.val) ↔ cap (n.val + 1) < c.val := by decide +kernel
theorem cap_le32 (n : Nat) (hn : n < 17) : cap n ≤ 32 := cap_le ⟨n, hn⟩
theorem cap_half : ∀ n : Fin 8, cap (n.val + 9) = min (cap ((n.val + 9) / 2)) (cap (n.val + 9 - (n.val + 9) / 2)) := by decide +kernel
theorem vF_nat (n c : Nat) (hn : n < 17) (hc : c < 33) : vF n c = (v n c : Nat) := by
  unfold vF
  rw [if_pos (by omega)]
  simp
set_option maxRecDepth 100000 in
theorem sheetNew (t : Nat) (w : World) (hT : TableOK t w) (ht : t < w.heap.size) : Calls Tryd.prog 54 #[.pointer (some ⟨t, 0, none⟩)] w fun e w' => ∃ b, e = .returned (.pointer (some ⟨b, 0, none⟩)) ∧ w.heap.size ≤ b ∧ SheetOK b w' ∧ Below w.heap.size w w' := by
  obtain ⟨cs, hz, hsz, hfz⟩ := sheet_zero
  have hS := Lib.hid (sheet_first cs hsz hfz)
  have h0 := hfz 0 (by omega)
  have HT := Lib.hid hT
  clear hfz hT
  go_enter Tryd.func54, Tryd.ntmps54
  go_wp2
  clear h0 hz hsz
  go_loopw [4] (fun cnt wr => ∃ n : Nat, 1 ≤ n ∧ n ≤ 17 ∧ cnt = .int .i64 n ∧ ∃ cs x, ShSt cs (ShC n) (ShB n) ∧ wr = (w.alloc (.cells cs 169)).grew x) (fun cnt _ => 17 - (intOf cnt).toNat)
  case atStart => exact ⟨1, by omega, by omega, rfl, _, _, hS.out, (World.grew_none _).symm⟩
  case round =>
    obtain ⟨n, hn1, hn, rfl, cs2, x2, hT, rfl⟩ := hrel
    by_cases hlt : n < 17
    · have hlt' : (n : Int) ≤ 16 := by omega
      have hsz := hT.size
      by_cases hn8 : n ≤ 8
      · have hn8' : (n : Int) ≤ 8 := by omega
        obtain ⟨y0, f0, _⟩ := hT.caps n (by omega)
        have hn17 : (n : Int) < 17 := by omega
        go_wp2_with fail
        go_loopw [33] (fun _ wr => ∃ c : Nat, cap n ≤ c ∧ c ≤ 32 ∧ ∃ cs x, cs[n]? = some (.int .i64 c) ∧ ShSt cs (ShC n) (ShB n) ∧ wr = (w.alloc (.cells cs 169)).grew x) (fun _ wr => (intOf ((wr.cell? ⟨w.heap.size, n, none⟩).getD (.bool false))).toNat)
        case atStart => exact ⟨32, cap_le32 n (by omega), by omega, _, _, Array.getElem?_setIfInBounds_self_of_lt (by rw [hT.size]; omega), hT.set_cap n (by omega) _ (fun d => by unfold ShC at d; omega) (fun _ _ _ d => d) (fun _ _ _ _ d => d), rfl⟩
        case round =>
          obtain ⟨c, hc1, hc2, cs3, x3, f1, hT3, rfl⟩ := hrel
          have hsz3 := hT3.size
          have HV := Lib.hid (fun x => tabV t ((w.alloc (.cells cs3 169)).grew x) (HT.out.below ht (by (repeat' (first | (with_reducible exact Below.refl _ _) | (with_reducible assumption) | (with_reducible refine Below.alloc ?_ ?_ _) | (with_reducible refine below_grew ?_ ?_ _) | (with_reducible refine Below.setCell ?_ ?_ _) | (with_reducible refine Below.drew ?_) | (with_reducible refine below_drewN ?_ _) | omega | (simp; done) | (simp; omega))))) n c)
          have hov := cap_over ⟨n - 1, by omega⟩ ⟨c, by omega⟩
          simp only [show n - 1 + 1 = n by omega] at hov
          rw [vF_nat n c (by omega) (by omega)] at HV
          by_cases hlc : cap n < c
          · have hov' : (1048576 : Int) < (v n c : Nat) := by have := hov.2 hlc; omega
            clear hov
            go_wp2_with (go_at_call 80; refine (HV.out _).mono ?_; rintro e w' ⟨rfl, rfl⟩)
            first | refine wp_region_grew2 10 (by kernel_rfl) (by kernel_rfl) ?_ | refine wp_region_grew 10 (by kernel_rfl) (by kernel_rfl) ?_
            simp only [List.take_succ_cons, List.take_zero, List.drop_succ_cons, List.drop_zero]
            repeat (go_big_quiet_step (fail))
            refine wpQuiet_nil ?_
            rintro _ ⟨x, rfl⟩
            go_wp2
            go_roundw
            case rel => exact ⟨c - 1, by omega, by omega, cs3.setIfInBounds n (.int .i64 (c - 1 : Nat)), x, Array.getElem?_setIfInBounds_self_of_lt (by omega), hT3.set_cap n (by omega) _ (fun d => by unfold ShC at d; omega) (fun _ _ _ d => d) (fun _ _ _ _ d => d), by rw [show (c : Int) - 1 = ((c - 1 : Nat) : Int) by omega]⟩
            case measure =>
              have e1 : (cs3.setIfInBounds n (.int .i64 ((c : Int) - 1)))[n]? = some (.int .i64 ((c : Int) - 1)) := Array.getElem?_setIfInBounds_self_of_lt (by omega)
              simp [go_sem, e1, f1, intOf]
              omega
          · have hov' : ¬(1048576 : Int) < (v n c : Nat) := by have := mt hov.1 hlc; omega
            have hce : c = cap n := by omega
            have hTb : ShSt cs3 (ShC (n + 1)) (ShB n) := hT3.learn n (by rw [f1, hce]; unfold capG; rw [if_neg (by omega)]) (fun i d => by unfold ShC at *; omega)
            clear hov hce
            go_wp2_with (go_at_call 80; refine (HV.out _).mono ?_; rintro e w' ⟨rfl, rfl⟩)
            go_loopw [5] (fun cnt wr => ∃ k : Nat, 1 ≤ k ∧ k ≤ cap n + 1 ∧ cnt = .int .i64 k ∧ ∃ cs x, ShSt cs (ShC (n + 1)) (ShBk n k) ∧ wr = (w.alloc (.cells cs 169)).grew x) (fun cnt _ => cap n + 1 - (intOf cnt).toNat)
            case atStart => exact ⟨1, by omega, by omega, rfl, _, _, hTb.imp (fun i _ d => d) (fun i j _ _ d => ShBk.one d), rfl⟩
            case round =>
              obtain ⟨k, hk1, hk, rfl, cs4, x4, hT4, rfl⟩ := hrel
              have hsz4 := hT4.size
              have c32 := cap_le32 n (by omega)
              have c1 := hT4.cap_done n (by omega) (by unfold ShC; omega)
              rw [show capG n = (cap n : Nat) from by unfold capG; rw [if_neg (by omega)]] at c1
              by_cases hkl : k ≤ cap n
              · have hkl' : (k : Int) ≤ (cap n : Nat) := by omega
                obtain ⟨y4, c2, _⟩ := hT4.bits n k (by omega) (by omega)
                have HW := Lib.hid (fun x => work_any w.heap.size t ((w.alloc (.cells cs4 169)).grew x) (HT.out.below ht (by (repeat' (first | (with_reducible exact Below.refl _ _) | (with_reducible assumption) | (with_reducible refine Below.alloc ?_ ?_ _) | (with_reducible refine below_grew ?_ ?_ _) | (with_reducible refine Below.setCell ?_ ?_ _) | (with_reducible refine Below.drew ?_) | (with_reducible refine below_drewN ?_ _) | omega | (simp; done) | (simp; omega))))) n k (by omega) (by omega) (by simp; omega) (fun h9 i j hi hj => by
                  have hh := cap_half ⟨n - 9, by omega⟩
                  simp only [show n - 9 + 9 = n by omega] at hh
                  have := hT4.bits_done i j (by omega) (by omega) (by
        unfold ShBk ShB
        rcases hi with rfl | rfl <;> omega)
                  simp [go_sem, this]))
                have hk33 : (k : Int) < 33 := by omega
                have hn17 : (n : Int) < 17 := by omega
                go_wp2_with fail
                first | refine wp_region_grew2 12 (by kernel_rfl) (by kernel_rfl) ?_ | refine wp_region_grew 12 (by kernel_rfl) (by kernel_rfl) ?_
                simp only [List.take_succ_cons, List.take_zero, List.drop_succ_cons, List.drop_zero]
                repeat (go_big_quiet_step (first | (go_at_call 81; exact Calls.grew_of (HW.out _))))
                refine wpQuiet_nil ?_
                rintro _ ⟨x, rfl⟩
                go_wp2
                go_roundw
                case rel => exact ⟨k + 1, by omega, by omega, by go_num, _, _, hT4.set_bits n k (by omega) (by omega) _ rfl _ (by omega) (fun _ _ d => d) fun i j hi hj d => by
                  unfold ShBk at *
                  rcases d with d | d
                  · exact .inl (.inl d)
                  · by_cases e : j = k
                    · exact .inr ⟨d.1, e⟩
                    · exact .inl (.inr ⟨d.1, by omega⟩), rfl⟩
                case measure => simp [intOf]; omega
              · have hkl' : ¬(k : Int) ≤ (cap n : Nat) := by omega
                have hn17 : (n : Int) < 17 := by omega
                go_wp2
                go_roundw
                case rel => exact ⟨n + 1, by omega, by omega, by go_num, _, _, hT4.imp (fun i _ d => d) (fun i j _ _ d => by
                  unfold ShBk ShB at *
                  by_cases e : i = n
                  · subst e; omega
                  · omega), rfl⟩
                case measure => simp [intOf]; omega
      · have hn8' : ¬(n : Int) ≤ 8 := by omega
        have hn17 : (n : Int) < 17 := by omega
        have hh := cap_half ⟨n - 9, by omega⟩
        simp only [show n - 9 + 9 = n by omega] at hh
        have g1 := hT.cap_done (n / 2) (by omega) (by unfold ShC; omega)
        have g2 := hT.cap_done (n - n / 2) (by omega) (by unfold ShC; omega)
        obtain ⟨y0, f0, _⟩ := hT.caps n (by omega)
        have hdiv : (n : Int) / 2 < 17 := by omega
        have hdiv0 : (0 : Int) ≤ (n : Int) / 2 := by omega
        have hdf : (n : Int) - (n : Int) / 2 < 17 := by omega
        have hdf0 : (0 : Int) ≤ (n : Int) - (n : Int) / 2 := by omega
        rw [show capG (n / 2) = (cap (n / 2) : Nat) from by unfold capG; rw [if_neg (by omega)]] at g1
        rw [show capG (n - n / 2) = (cap (n - n / 2) : Nat) from by unfold capG; rw [if_neg (by omega)]] at g2
        go_wp2_with fail
        first | refine wp_region_grew2 22 (by kernel_rfl) (by kernel_rfl) ?_ | refine wp_region_grew 22 (by kernel_rfl) (by kernel_rfl) ?_
        simp only [List.take_succ_cons, List.take_zero, List.drop_succ_cons, List.drop_zero]
        repeat (go_big_quiet_step (fail))
        refine wpQuiet_nil ?_
        rintro _ ⟨x, rfl⟩
        go_wp2
        have hTb : ShSt (cs2.setIfInBounds n (.int .i64 (min (cap (n / 2) : Nat) (cap (n - n / 2) : Nat)))) (ShC (n + 1)) (ShB n) := hT.set_cap n (by omega) _ (fun _ => by unfold capG; rw [if_neg (by omega), hh]; omega) (fun i hi hne d => by unfold ShC at *; omega) (fun _ _ _ _ d => d)
        go_loopw [5] (fun cnt wr => ∃ k : Nat, 1 ≤ k ∧ k ≤ cap n + 1 ∧ cnt = .int .i64 k ∧ ∃ cs x, ShSt cs (ShC (n + 1)) (ShBk n k) ∧ wr = (w.alloc (.cells cs 169)).grew x) (fun cnt _ => cap n + 1 - (intOf cnt).toNat)
        case atStart => exact ⟨1, by omega, by omega, rfl, _, _, hTb.imp (fun i _ d => d) (fun i j _ _ d => ShBk.one d), rfl⟩
        case round =>
          obtain ⟨k, hk1, hk, rfl, cs4, x4, hT4, rfl⟩ := hrel
          have hsz4 := hT4.size
          have c32 := cap_le32 n (by omega)
          have c1 := hT4.cap_done n (by omega) (by unfold ShC; omega)
          rw [show capG n = (cap n : Nat) from by unfold capG; rw [if_neg (by omega)]] at c1
          by_cases hkl : k ≤ cap n
          · have hkl' : (k : Int) ≤ (cap n : Nat) := by omega
            obtain ⟨y4, c2, _⟩ := hT4.bits n k (by omega) (by omega)
            have HW := Lib.hid (fun x => work_any w.heap.size t ((w.alloc (.cells cs4 169)).grew x) (HT.out.below ht (by (repeat' (first | (with_reducible exact Below.refl _ _) | (with_reducible assumption) | (with_reducible refine Below.alloc ?_ ?_ _) | (with_reducible refine below_grew ?_ ?_ _) | (with_reducible refine Below.setCell ?_ ?_ _) | (with_reducible refine Below.drew ?_) | (with_reducible refine below_drewN ?_ _) | omega | (simp; done) | (simp; omega))))) n k (by omega) (by omega) (by simp; omega) (fun h9 i j hi hj => by
              have hh := cap_half ⟨n - 9, by omega⟩
              simp only [show n - 9 + 9 = n by omega] at hh
              have := hT4.bits_done i j (by omega) (by omega) (by
    unfold ShBk ShB
    rcases hi with rfl | rfl <;> omega)
              simp [go_sem, this]))
            have hk33 : (k : Int) < 33 := by omega
            have hn17 : (n : Int) < 17 := by omega
            go_wp2_with fail
            first | refine wp_region_grew2 12 (by kernel_rfl) (by kernel_rfl) ?_ | refine wp_region_grew 12 (by kernel_rfl) (by kernel_rfl) ?_
            simp only [List.take_succ_cons, List.take_zero, List.drop_succ_cons, List.drop_zero]
            repeat (go_big_quiet_step (first | (go_at_call 81; exact Calls.grew_of (HW.out _))))
            refine wpQuiet_nil ?_
            rintro _ ⟨x, rfl⟩
            go_wp2
            go_roundw
            case rel => exact ⟨k + 1, by omega, by omega, by go_num, _, _, hT4.set_bits n k (by omega) (by omega) _ rfl _ (by omega) (fun _ _ d => d) fun i j hi hj d => by
              unfold ShBk at *
              rcases d with d | d
              · exact .inl (.inl d)
              · by_cases e : j = k
                · exact .inr ⟨d.1, e⟩
                · exact .inl (.inr ⟨d.1, by omega⟩), rfl⟩
            case measure => simp [intOf]; omega
          · have hkl' : ¬(k : Int) ≤ (cap n : Nat) := by omega
            have hn17 : (n : Int) < 17 := by omega
            go_wp2
            go_roundw
            case rel => exact ⟨n + 1, by omega, by omega, by go_num, _, _, hT4.imp (fun i _ d => d) (fun i j _ _ d => by
              unfold ShBk ShB at *
              by_cases e : i = n
              · subst e; omega
              · omega), rfl⟩
            case measure => simp [intOf]; omega
    · have hlt' : ¬(n : Int) ≤ 16 := by omega
      go_wp2
      go_ret
      obtain rfl : n = 17 := by omega
      refine ⟨w.heap.size, rfl, Nat.le_refl _, ⟨cs2, ?_, hT⟩, by (repeat' (first | (with_reducible exact Below.refl _ _) | (with_reducible assumption) | (with_reducible refine Below.alloc ?_ ?_ _) | (with_reducible refine below_grew ?_ ?_ _) | (with_reducible refine Below.setCell ?_ ?_ _) | (with_reducible refine Below.drew ?_) | (with_reducible refine below_drewN ?_ _) | omega | (simp; done) | (simp; omega)))⟩
      rw [World.grew_block _ _ _ (by simp)]
      exact heap_alloc_new w _
end Go.Proofs.YtbcdnbbpkikppaaDoor
end

section
namespace Go
open Go.RowKit Go.Vec
set_option linter.unusedSimpArgs false
/-- What a book's map may hold. -/
def GoodEntries (es : List MapEntry) : Prop := ∀ e ∈ es, ∃ n k : Int, e.key = .agg #[.int .i64 n, .int .i64 k] ∧ e.val = .int .u64 (vF n k)
/-- A map's contents, and growth. -/
structure BookBy where
  es : Array MapEntry
  clock : Nat
  good : GoodEntries es.toList
  gr : Grown.By
instance : Inhabited BookBy := ⟨⟨#[], 0, fun e h => by simp at h, default⟩⟩
/-- 'w', with other contents of the map at block m, grown. -/
def World.bkd (w : World) (m : Nat) (x : BookBy) : World := { w with heap := (w.heap.setIfInBounds m (.map x.es x.clock)) ++ x.gr.objs, drawn := x.gr.drawn }
section
variable (w : World) (m : Nat) (x y : BookBy)
theorem World.bkd_block (k : Nat) (h : k < w.heap.size) (hne : m ≠ k) : (w.bkd m x).heap[k]? = w.heap[k]? := by
  show (w.heap.setIfInBounds m _ ++ x.gr.objs)[k]? = _
  rw [Array.getElem?_append_left (by simpa using h), Array.getElem?_setIfInBounds_ne hne]
theorem World.bkd_map (h : m < w.heap.size) : (w.bkd m x).heap[m]? = some (.map x.es x.clock) := by
  show (w.heap.setIfInBounds m _ ++ x.gr.objs)[m]? = _
  rw [Array.getElem?_append_left (by simpa using h), Array.getElem?_setIfInBounds_self_of_lt h]
@[simp, go_sem] theorem World.size_bkd : (w.bkd m x).heap.size = w.heap.size + x.gr.objs.size := by
  show (w.heap.setIfInBounds m _ ++ x.gr.objs).size = _
  simp
@[go_sem] theorem World.drew_bkd : (w.bkd m x).drew = w.bkd m ⟨x.es, x.clock, x.good, ⟨x.gr.objs, x.gr.drawn + 1⟩⟩ := rfl
@[go_sem] theorem World.bkd_drew : w.drew.bkd m x = w.bkd m x := rfl
@[go_sem] theorem World.grew_bkd (z : Grown.By) : (w.bkd m x).grew z = w.bkd m ⟨x.es, x.clock, x.good, ⟨x.gr.objs ++ z.objs, z.drawn⟩⟩ := by
  unfold World.bkd World.grew
  simp [Array.append_assoc]
@[go_sem] theorem World.cell?_bkd (n i : Nat) (s : Option Nat) (hn : n < w.heap.size) (hne : m ≠ n) : (w.bkd m x).cell? ⟨n, i, s⟩ = w.cell? ⟨n, i, s⟩ := by
  unfold World.cell?
  rw [World.bkd_block w m x n hn hne]
@[go_sem] theorem World.frozen?_bkd (n i : Nat) (s : Option Nat) (hn : n < w.heap.size) (hne : m ≠ n) : (w.bkd m x).frozen? ⟨n, i, s⟩ = w.frozen? ⟨n, i, s⟩ := by
  unfold World.frozen?
  rw [World.bkd_block w m x n hn hne]
@[go_sem] theorem World.shape?_bkd (n : Nat) (hn : n < w.heap.size) (hne : m ≠ n) : (w.bkd m x).shape? n = w.shape? n := by
  unfold World.shape?
  rw [World.bkd_block w m x n hn hne]
@[go_sem] theorem World.heap_bkd (n : Nat) (hn : n < w.heap.size) (hne : m ≠ n) : (w.bkd m x).heap[n]? = w.heap[n]? := World.bkd_block w m x n hn hne
@[go_sem] theorem World.setCell_bkd (n i : Nat) (s : Option Nat) (v : Value) (hn : n < w.heap.size) (hne : m ≠ n) : (w.bkd m x).setCell ⟨n, i, s⟩ v = (w.setCell ⟨n, i, s⟩ v).bkd m x := by
  unfold World.setCell World.bkd
  congr 1
  apply Array.ext_getElem?
  intro k
  simp only [Array.getElem?_modify, Array.getElem?_append, Array.size_modify, Array.size_setIfInBounds, Array.getElem?_setIfInBounds]
  by_cases hk : n = k
  · subst hk
    simp [hn, hne]
  · simp [hk]
@[go_sem] theorem World.bkd_bkd (h : m < w.heap.size) : (w.bkd m x).bkd m y = w.bkd m ⟨y.es, y.clock, y.good, ⟨x.gr.objs ++ y.gr.objs, y.gr.drawn⟩⟩ := by
  unfold World.bkd
  simp only
  congr 1
  apply Array.ext_getElem?
  intro k
  simp only [Array.getElem?_append, Array.size_append, Array.size_setIfInBounds, Array.getElem?_setIfInBounds]
  grind
end
@[go_sem] theorem World.heap_alloc_past (w : World) (o : Obj) (k : Nat) (h : k < w.heap.size) : (w.alloc o).heap[k]? = w.heap[k]? := Below.heap_alloc w o k h
/-- Of what was there nothing has turned but the map at block m, which is a good one. -/
structure BkInv (m : Nat) (w w' : World) : Prop where
  os : w'.os = w.os
  tape : w'.tape = w.tape
  output : w'.output = w.output
  size : w.heap.size ≤ w'.heap.size
  lt : m < w.heap.size
  map : ∃ es clk, w'.heap[m]? = some (.map es clk) ∧ GoodEntries es.toList
  block : ∀ k, k < w.heap.size → m ≠ k → w'.heap[k]? = w.heap[k]?
theorem BkInv.below {m : Nat} {w a b : World} (h : BkInv m w a) (hb : Below w.heap.size a b) : BkInv m w b := by
  obtain ⟨es, clk, h1, h2⟩ := h.map
  exact ⟨hb.os.trans h.os, hb.tape.trans h.tape, hb.output.trans h.output, Nat.le_trans h.size hb.size, h.lt, ⟨es, clk, (hb.block m h.lt).trans h1, h2⟩, fun k hk hne => (hb.block k hk).trans (h.block k hk hne)⟩
theorem BkInv.alloc {m : Nat} {w a : World} (h : BkInv m w a) (o : Obj) : BkInv m w (a.alloc o) := h.below ((Below.refl _ _).alloc h.size o)
theorem BkInv.grew {m : Nat} {w a : World} (h : BkInv m w a) (x : Grown.By) : BkInv m w (a.grew x) := h.below (below_grew (Below.refl _ _) h.size x)
theorem BkInv.drew {m : Nat} {w a : World} (h : BkInv m w a) : BkInv m w a.drew := ⟨h.os, h.tape, h.output, h.size, h.lt, h.map, h.block⟩
theorem BkInv.drewN {m : Nat} {w a : World} (h : BkInv m w a) (n : Nat) : BkInv m w (a.drewN n) := ⟨h.os, h.tape, h.output, h.size, h.lt, h.map, h.block⟩
theorem BkInv.setCell {m : Nat} {w a : World} (h : BkInv m w a) {p : Addr} (hp : w.heap.size ≤ p.block) (u : Value) : BkInv m w (a.setCell p u) := h.below ((Below.refl _ _).setCell hp u)
theorem BkInv.bkd {m : Nat} {w a : World} (h : BkInv m w a) (x : BookBy) : BkInv m w (a.bkd m x) := by
  have hlt : m < a.heap.size := Nat.lt_of_lt_of_le h.lt h.size
  refine ⟨h.os, h.tape, h.output, ?_, h.lt, ⟨x.es, x.clock, World.bkd_map a m x hlt, x.good⟩, fun k hk hne => (World.bkd_block a m x k (Nat.lt_of_lt_of_le hk h.size) hne).trans (h.block k hk hne)⟩
  have := h.size
  simp; omega
theorem BkInv.refl {m : Nat} {w : World} {es : Array MapEntry} {clk : Nat} (h : w.heap[m]? = some (.map es clk)) (hg : GoodEntries es.toList) : BkInv m w w :=
  ⟨rfl, rfl, rfl, Nat.le_refl _, (Array.getElem?_eq_some_iff.1 h).1, ⟨es, clk, h, hg⟩, fun _ _ _ => rfl⟩
/-- A book lies at block b, its map at block m. -/
structure BookOK (T : TypeId) (b m : Nat) (w : World) : Prop where
  book : w.heap[b]? = some (.cells #[.map (some m)] T (0, 0))
  ne : m ≠ b
  map : ∃ es clk, w.heap[m]? = some (.map es clk) ∧ GoodEntries es.toList
theorem BookOK.lt_b {T : TypeId} {b m : Nat} {w : World} (h : BookOK T b m w) : b < w.heap.size := (Array.getElem?_eq_some_iff.1 h.book).1
theorem BookOK.refl {T : TypeId} {b m : Nat} {w : World} (h : BookOK T b m w) : BkInv m w w := by
  obtain ⟨es, clk, h1, h2⟩ := h.map
  exact BkInv.refl h1 h2
theorem BookOK.inv {T : TypeId} {b m : Nat} {w w' : World} (h : BookOK T b m w) (hi : BkInv m w w') : BookOK T b m w' :=
  ⟨(hi.block b h.lt_b h.ne).trans h.book, h.ne, hi.map⟩
theorem BookOK.cell {T : TypeId} {b m : Nat} {w : World} (h : BookOK T b m w) : w.cell? ⟨b, 0, none⟩ = some (.map (some m)) := by simp [World.cell?, h.book]
end Go
end

section
namespace Go.Proofs.YtbcdnbbpkikppaaDoor
open Go.RowKit Go.BigFrame Go.Vec
set_option linter.unusedSimpArgs false
abbrev Book (b m : Nat) (w : World) : Prop := BookOK 154 b m w
/-- A new book. -/
theorem bookNew (w : World) : Calls Tryd.prog 50 #[] w fun e w' => ∃ b m, e = .returned (.pointer (some ⟨b, 0, none⟩)) ∧ w.heap.size ≤ b ∧ w.heap.size ≤ m ∧ Book b m w' ∧ Below w.heap.size w w' := by
  have hmm := @run_makeMap Tryd.prog
  go_enter Tryd.func50, Tryd.ntmps50
  go_wp2
  go_ret
  refine ⟨w.heap.size + 1, w.heap.size, rfl, ?_, ?_, ⟨?_, ?_, #[], 0, ?_, ?_⟩, ?_⟩
  · simp
  · exact Nat.le_refl _
  · exact heap_alloc2_new w _ _
  · simp
  · rw [World.heap_alloc_past _ _ _ (by simp)]; exact heap_alloc_new w _
  · intro e h; simp at h
  · (repeat' (first | (with_reducible exact Below.refl _ _) | (with_reducible assumption) | (with_reducible refine Below.alloc ?_ ?_ _) | (with_reducible refine below_grew ?_ ?_ _) | (with_reducible refine Below.setCell ?_ ?_ _) | (with_reducible refine Below.drew ?_) | (with_reducible refine below_drewN ?_ _) | omega | (simp; done) | (simp; omega)))
end Go.Proofs.YtbcdnbbpkikppaaDoor
end

section
namespace Go.Proofs.YtbcdnbbpkikppaaDoor
open Go.RowKit Go.BigFrame Go.Vec Go.Cost
set_option linter.unusedSimpArgs false
section
variable {b m : Nat} {w : World}
/-- What is known behind each change of the map. -/
theorem Book.any (hB : Book b m w) (x : BookBy) : Book b m (w.bkd m x) := hB.inv (hB.refl.bkd x)
end
end Go.Proofs.YtbcdnbbpkikppaaDoor
end

section
namespace Go.Proofs.YtbcdnbbpkikppaaDoor
open Go.RowKit Go.BigFrame Go.Vec Go.Cost
set_option linter.unusedSimpArgs false
set_option linter.unusedVariables false
abbrev A5 := 29
abbrev i64s : Nat → IntKind := fun _ => .i64
/-- A job: its share, its sheet, its mode, its slopes. -/
structure JobAt (jb hb sh : Nat) (s c : Int) (sl : Nat → Int) (w : World) : Prop where
  job : w.heap[jb]? = some (.cells #[.pointer (some ⟨hb, 0, none⟩), .int .i64 s, .int .i64 c, .int .i64 (sl 0), .int .i64 (sl 1), .int .i64 (sl 2), .int .i64 (sl 3), .int .i64 (sl 4)] 234 (0, 0))
  sha : w.heap[hb]? = some (.cells #[.pointer (some ⟨sh, 0, none⟩)] 164 (0, 0))
  sheet : SheetOK sh w
  wid : WidthW w
theorem sheet_lt {b : Nat} {w : World} (h : SheetOK b w) : b < w.heap.size := by
  obtain ⟨cs, h, _⟩ := h
  exact (Array.getElem?_eq_some_iff.1 h).1
theorem WidthW.below' {w w' : World} (h : WidthW w) (hb : Below w.heap.size w w') : WidthW w' := ⟨Nat.lt_of_lt_of_le h.1 hb.size, fun j hj => (World.cell?_of_block (w := w) (hb.block _ h.1)).trans (h.2 j hj)⟩
theorem JobAt.keep {jb hb sh s c sl} {w w' : World} (h : JobAt jb hb sh s c sl w) (hb' : Below w.heap.size w w') : JobAt jb hb sh s c sl w' :=
  ⟨(hb'.block _ (Array.getElem?_eq_some_iff.1 h.job).1).trans h.job, (hb'.block _ (Array.getElem?_eq_some_iff.1 h.sha).1).trans h.sha, h.sheet.below (sheet_lt h.sheet) hb', h.wid.below' hb'⟩
theorem JobAt.c0 {jb hb sh s c sl} {w : World} (h : JobAt jb hb sh s c sl w) : w.cell? ⟨jb, 0, none⟩ = some (.pointer (some ⟨hb, 0, none⟩)) := (block_facts h.job).1 0
theorem JobAt.c1 {jb hb sh s c sl} {w : World} (h : JobAt jb hb sh s c sl w) : w.cell? ⟨jb, 1, none⟩ = some (.int .i64 s) := (block_facts h.job).1 1
theorem JobAt.c2 {jb hb sh s c sl} {w : World} (h : JobAt jb hb sh s c sl w) : w.cell? ⟨jb, 2, none⟩ = some (.int .i64 c) := (block_facts h.job).1 2
theorem JobAt.cs {jb hb sh s c sl} {w : World} (h : JobAt jb hb sh s c sl w) (b : Nat) (hb5 : b < 5) : w.cell? ⟨jb, 3 + b, none⟩ = some (.int .i64 (sl b)) := by
  rw [(block_facts h.job).1 (3 + b)]
  rcases (show b = 0 ∨ b = 1 ∨ b = 2 ∨ b = 3 ∨ b = 4 by omega) with h | h | h | h | h <;> subst h <;> rfl
theorem JobAt.h0 {jb hb sh s c sl} {w : World} (h : JobAt jb hb sh s c sl w) : w.cell? ⟨hb, 0, none⟩ = some (.pointer (some ⟨sh, 0, none⟩)) := (block_facts h.sha).1 0
theorem JobAt.lt {jb hb sh s c sl} {w : World} (h : JobAt jb hb sh s c sl w) : jb < w.heap.size ∧ hb < w.heap.size := ⟨(block_facts h.job).2.2, (block_facts h.sha).2.2⟩
/-- The call's frame: the result, the pulses. -/
structure JA (w : World) (B jb hb sh : Nat) (s c : Int) (sl f : Nat → Int) (W : World) : Prop where
  below : Below B w W
  rb : Bx B A5 i64s 5 (fun _ => 0) W
  kb : Bx (B + 1) A5 i64s 5 f W
  job : JobAt jb hb sh s c sl W
  jl : jb < B ∧ hb < B ∧ sh < B
  gl : 0 < B
theorem JA.keep {w B jb hb sh s c sl f} {W W' : World} (h : JA w B jb hb sh s c sl f W) (hb' : Below W.heap.size W W') : JA w B jb hb sh s c sl f W' :=
  ⟨h.below.trans (hb'.mono (by have := (block_facts h.rb).2.2; omega)), h.rb.keep hb', h.kb.keep hb', h.job.keep hb', h.jl, h.gl⟩
theorem JobAt.only {jb hb sh s c sl} {q : Nat} {w w' : World} (h : JobAt jb hb sh s c sl w) (ho : Only q w w') (hj : jb < q) (hh : hb < q) (hs : sh < q) (hg : 0 < q) : JobAt jb hb sh s c sl w' := by
  have hB : Below q w w' := ho.below (Below.refl q w) (Nat.le_refl _)
  exact ⟨(ho.block _ (by omega)).trans h.job, (ho.block _ (by omega)).trans h.sha, h.sheet.below hs hB, ⟨by rw [ho.size]; exact h.wid.1, fun j hj => (World.cell?_of_block (w := w) (ho.block 0 (by omega))).trans (h.wid.2 j hj)⟩⟩
/-- The call's frame: the pulses that came. -/
structure JT (w : World) (B jb hb sh : Nat) (s c : Int) (sl k : Nat → Int) (W : World) : Prop where
  below : Below B w W
  kb : Bx B A5 i64s 5 k W
  job : JobAt jb hb sh s c sl W
theorem JT.keep {w B jb hb sh s c sl k} {W W' : World} (h : JT w B jb hb sh s c sl k W) (hb' : Below W.heap.size W W') : JT w B jb hb sh s c sl k W' :=
  ⟨h.below.trans (hb'.mono (by have := (block_facts h.kb).2.2; omega)), h.kb.keep hb', h.job.keep hb'⟩
end Go.Proofs.YtbcdnbbpkikppaaDoor
end

section
namespace Go.Proofs.YtbcdnbbpkikppaaDoor
open Go.RowKit Go.BigFrame Go.Vec Go.Cost
set_option linter.unusedSimpArgs false
theorem WidthW.ne {b m : Nat} {w : World} (h : WidthW w) (hB : Book b m w) : m ≠ 0 := by
  intro e
  obtain ⟨es, clk, h1, _⟩ := hB.map
  have h2 := h.2 0 (by omega)
  subst e
  simp [World.cell?, h1] at h2
theorem WidthW.inv {b m : Nat} {w w' : World} (h : WidthW w) (hB : Book b m w) (hi : BkInv m w w') : WidthW w' :=
  ⟨Nat.lt_of_lt_of_le h.1 hi.size, fun j hj => (World.cell?_of_block (w := w) (hi.block _ h.1 (h.ne hB))).trans (h.2 j hj)⟩
end Go.Proofs.YtbcdnbbpkikppaaDoor
end

section
namespace Go.Proofs.YtbcdnbbpkikppaaDoor
open Go.Vec Go.Cost
def more (c : Int) (b : Nat) (l : List Int) : Int := c * (bitsF (widL.getD b 0) (l.getD b 0 + 1) - bitsF (widL.getD b 0) (l.getD b 0))
end Go.Proofs.YtbcdnbbpkikppaaDoor
end

section
namespace Go.Proofs.YtbcdnbbpkikppaaDoor
open Go.RowKit Go.BigFrame Go.Vec Go.Cost
set_option linter.unusedSimpArgs false
set_option linter.unusedVariables false
theorem JobAt.ext {jb hb sh s c sl} {sl' : Nat → Int} {w : World} (h : JobAt jb hb sh s c sl w) (he : ∀ b, b < 5 → sl b = sl' b) : JobAt jb hb sh s c sl' w := by
  obtain ⟨h1, h2, h3, h4⟩ := h
  rw [he 0 (by omega), he 1 (by omega), he 2 (by omega), he 3 (by omega), he 4 (by omega)] at h1
  exact ⟨h1, h2, h3, h4⟩
/-- The call's frame: the mode, the result, the job. -/
structure JS (w : World) (B hb sh : Nat) (s c : Int) (sl : Nat → Int) (W : World) : Prop where
  below : Below B w W
  mo : W.heap[B]? = some (.cells #[.int .i64 s, .int .i64 c] 53 (0, 0))
  rb : Bx (B + 1) A5 i64s 5 (fun _ => 0) W
  job : JobAt (B + 1 + 1) hb sh s c sl W
  hl : hb < B ∧ sh < B ∧ 0 < B
theorem JS.keep {w B hb sh s c sl} {W W' : World} (h : JS w B hb sh s c sl W) (hb' : Below W.heap.size W W') : JS w B hb sh s c sl W' :=
  ⟨h.below.trans (hb'.mono (by have := (block_facts h.mo).2.2; omega)), (hb'.block _ (block_facts h.mo).2.2).trans h.mo, h.rb.keep hb', h.job.keep hb', h.hl⟩
theorem JS.m0 {w B hb sh s c sl} {W : World} (h : JS w B hb sh s c sl W) : W.cell? ⟨B, 0, none⟩ = some (.int .i64 s) := (block_facts h.mo).1 0
theorem JS.m1 {w B hb sh s c sl} {W : World} (h : JS w B hb sh s c sl W) : W.cell? ⟨B, 1, none⟩ = some (.int .i64 c) := (block_facts h.mo).1 1
/-- .. and the pulses, and the next level's. -/
structure JK (w : World) (B hb sh kb xb : Nat) (s c : Int) (sl k nx : Nat → Int) (W : World) : Prop where
  js : JS w B hb sh s c sl W
  o1 : B + 1 + 1 < kb
  o2 : kb < xb
  kk : Bx kb A5 i64s 5 k W
  xx : Bx xb A5 i64s 5 nx W
theorem JK.keep {w B hb sh kb xb s c sl k nx} {W W' : World} (h : JK w B hb sh kb xb s c sl k nx W) (hb' : Below W.heap.size W W') : JK w B hb sh kb xb s c sl k nx W' :=
  ⟨h.js.keep hb', h.o1, h.o2, h.kk.keep hb', h.xx.keep hb'⟩
theorem JS.other {w B hb sh s c sl} {q : Nat} {W W' : World} (h : JS w B hb sh s c sl W) (ho : Only q W W') (hq : B + 1 + 1 < q) : JS w B hb sh s c sl W' := by
  have h1 := h.hl
  exact ⟨ho.below h.below (by omega), (ho.block _ (by omega)).trans h.mo, (ho.block _ (by omega)).trans h.rb, h.job.only ho (by omega) (by omega) (by omega) (by omega), h1⟩
theorem JK.size {w B hb sh kb xb s c sl k nx} {W : World} (h : JK w B hb sh kb xb s c sl k nx W) : xb < W.heap.size := (block_facts h.xx).2.2
theorem JK.other {w B hb sh kb xb s c sl k nx} {q : Nat} {W W' : World} (h : JK w B hb sh kb xb s c sl k nx W) (ho : Only q W W') (hq : xb < q) : JK w B hb sh kb xb s c sl k nx W' := by
  have h1 := h.o1
  have h2 := h.o2
  exact ⟨h.js.other ho (by omega), h1, h2, (ho.block _ (by omega)).trans h.kk, (ho.block _ (by omega)).trans h.xx⟩
/-- A share: its sheet. -/
structure ShareAt (hb sh : Nat) (w : World) : Prop where
  sha : w.heap[hb]? = some (.cells #[.pointer (some ⟨sh, 0, none⟩)] 164 (0, 0))
  sheet : SheetOK sh w
end Go.Proofs.YtbcdnbbpkikppaaDoor
end

section
namespace Go.Proofs.YtbcdnbbpkikppaaDoor
open Go.RowKit Go.BigFrame Go.Vec Go.Cost
set_option linter.unusedSimpArgs false
set_option linter.unusedVariables false
theorem ShareAt.keep {hb sh : Nat} {w w' : World} (h : ShareAt hb sh w) (hb' : Below w.heap.size w w') : ShareAt hb sh w' :=
  ⟨(hb'.block _ (block_facts h.sha).2.2).trans h.sha, h.sheet.below (sheet_lt h.sheet) hb'⟩
theorem shareNew (sh : Nat) (w : World) (hS : SheetOK sh w) : Calls Tryd.prog 53 #[.pointer (some ⟨sh, 0, none⟩)] w fun e w' => ∃ hb, e = .returned (.pointer (some ⟨hb, 0, none⟩)) ∧ w.heap.size ≤ hb ∧ ShareAt hb sh w' ∧ Below w.heap.size w w' := by
  have HS := Lib.hid hS
  clear hS
  go_enter Tryd.func53, Tryd.ntmps53
  go_wp2_with fail
  go_ret
  exact ⟨w.heap.size, rfl, Nat.le_refl _, ⟨alloc_at _ _, HS.out.below (sheet_lt HS.out) (by (repeat' (first | (with_reducible exact Below.refl _ _) | (with_reducible assumption) | (with_reducible refine Below.alloc ?_ ?_ _) | (with_reducible refine below_grew ?_ ?_ _) | (with_reducible refine Below.setCell ?_ ?_ _) | (with_reducible refine Below.drew ?_) | (with_reducible refine below_drewN ?_ _) | omega | (simp; done) | (simp; omega))))⟩, by (repeat' (first | (with_reducible exact Below.refl _ _) | (with_reducible assumption) | (with_reducible refine Below.alloc ?_ ?_ _) | (with_reducible refine below_grew ?_ ?_ _) | (with_reducible refine Below.setCell ?_ ?_ _) | (with_reducible refine Below.drew ?_) | (with_reducible refine below_drewN ?_ _) | omega | (simp; done) | (simp; omega)))⟩
end Go.Proofs.YtbcdnbbpkikppaaDoor
end

section
namespace Go.Proofs.YtbcdnbbpkikppaaDoor
open Go.RowKit Go.BigFrame Go.Vec Go.Cost
set_option linter.unusedSimpArgs false
set_option linter.unusedVariables false
def frLeaf (i : Nat) : Leaf := if i < 2 then .bool else .int .i64
def feq (i : Nat) (x y : Int) : Bool := if i < 2 then (x != 0) == (y != 0) else x == y
theorem layoutFr : layout Tryd.prog 5 TFr = some ((List.range 94).map frLeaf) := by kernel_rfl
theorem fit_fr (f : Nat → Int) : ∀ l : List Nat, fitAll (l.map frLeaf) (l.map (frC f)) = true
  | [] => rfl
  | i :: l => by
    simp only [List.map_cons, fitAll, Bool.and_eq_true]
    refine ⟨?_, fit_fr f l⟩
    unfold frLeaf frC fcell
    split <;> simp [Leaf.fits]
theorem cellsEq_fr (f g : Nat → Int) : ∀ l : List Nat, cellsEq (l.map (frC f)) (l.map (frC g)) = l.all fun i => feq i (f i) (g i)
  | [] => rfl
  | i :: l => by
    simp only [List.map_cons, cellsEq, List.all_cons, cellsEq_fr f g l]
    congr 1
    unfold frC fcell feq
    split <;> rfl
theorem eqFr (f g : Nat → Int) (w : World) : (Op.equalIn 10000 TFr (.agg (av 94 (frC f))) (.agg (av 94 (frC g)))).run Tryd.prog w = .ok ((List.range 94).all fun i => feq i (f i) (g i)) w := by
  have h := eq_flat (P := Tryd.prog) TFr 5 _ layoutFr (by decide) (by kernel_rfl) ((List.range 94).map (frC f)) ((List.range 94).map (frC g)) (fit_fr f _) (fit_fr g _) w
  rw [cellsEq_fr] at h
  exact h
theorem eqFr_yes (f g : Nat → Int) (h : ∀ i, i < 94 → f i = g i) (w : World) : (Op.equalIn 10000 TFr (.agg (av 94 (frC f))) (.agg (av 94 (frC g)))).run Tryd.prog w = .ok true w := by
  rw [eqFr]
  congr 1
  rw [List.all_eq_true]
  intro i hi
  rw [h i (by simpa using hi)]
  unfold feq
  split <;> simp
abbrev TPl := 111
abbrev TQk := 122
set_option maxHeartbeats 1000000 in
theorem framePlain (w : World) : Calls Tryd.prog 22 #[] w fun e w' => ∃ b m, e = .returned (.iface TPl (.agg #[.pointer (some ⟨b, 0, none⟩)])) ∧ w.heap.size ≤ b ∧ w.heap.size ≤ m ∧ Book b m w' ∧ Below w.heap.size w w' := by
  have hb := Lib.hid (fun w => bookNew w)
  go_enter Tryd.func22, Tryd.ntmps22
  go_wp2_with fail
  refine (hb.out _).mono ?_
  rintro e w1 ⟨b, m, rfl, hbs, hms, hB, hb1⟩
  have HB := Lib.hid hB
  have HB1 := Lib.hid hb1
  clear hB hb1
  go_wp2_with fail
  go_ret
  exact ⟨b, m, rfl, hbs, hms, HB.out, HB1.out⟩
set_option maxHeartbeats 1000000 in
theorem frameQuick (w : World) : Calls Tryd.prog 24 #[] w fun e w' => ∃ tb hb sh, e = .returned (.iface TQk (.agg #[.pointer (some ⟨tb, 0, none⟩), .pointer (some ⟨hb, 0, none⟩)])) ∧ w.heap.size ≤ tb ∧ TableOK tb w' ∧ ShareAt hb sh w' ∧ Below w.heap.size w w' := by
  have ht := Lib.hid (fun w => tabNew w)
  have hs := Lib.hid (fun t w hT ht => sheetNew t w hT ht)
  have hn := Lib.hid (fun sh w hS => shareNew sh w hS)
  go_enter Tryd.func24, Tryd.ntmps24
  go_wp2_with fail
  refine (ht.out _).mono ?_
  rintro e w1 ⟨tb, rfl, htb, hT, hb1⟩
  have HT := Lib.hid hT
  have HB1 := Lib.hid hb1
  have hlt : tb < w1.heap.size := by obtain ⟨cs, h1, _⟩ := hT; exact (Array.getElem?_eq_some_iff.1 h1).1
  clear hT hb1
  go_wp2_with fail
  refine (hs.out tb w1 HT.out hlt).mono ?_
  rintro e w2 ⟨sb, rfl, hsb, hS, hb2⟩
  have HS := Lib.hid hS
  have HB2 := Lib.hid (HB1.out.trans (hb2.mono HB1.out.size))
  have HT2 := Lib.hid (show TableOK tb w2 by obtain ⟨cs, h1, h2⟩ := HT.out; exact ⟨cs, (hb2.block _ hlt).trans h1, h2⟩)
  have hlt2 := Nat.lt_of_lt_of_le hlt hb2.size
  clear hS hb2
  go_wp2_with fail
  refine (hn.out sb w2 HS.out).mono ?_
  rintro e w3 ⟨hb, rfl, hhb, hA, hb3⟩
  have HA := Lib.hid hA
  have HB3 := Lib.hid (HB2.out.trans (hb3.mono HB2.out.size))
  have HT3 := Lib.hid (show TableOK tb w3 by obtain ⟨cs, h1, h2⟩ := HT2.out; exact ⟨cs, (hb3.block _ hlt2).trans h1, h2⟩)
  clear hA hb3
  go_wp2_with fail
  go_ret
  exact ⟨tb, hb, sb, rfl, htb, HT3.out, HA.out, HB3.out⟩
end Go.Proofs.YtbcdnbbpkikppaaDoor
end

section
namespace Go.Proofs.YtbcdnbbpkikppaaDoor
open Go.RowKit Go.BigFrame Go.Vec Go.Cost
set_option linter.unusedSimpArgs false
set_option linter.unusedVariables false
def exB : Nat → Int := fun i => if i = 0 then 8 else 0
def exS : RS := { taken := 3, raws := 0, rng := 16777216, val := 524288 }
def exS1 : RS := { taken := 3, raws := 0, rng := 524288, val := 0 }
theorem ex_start (c : RC) (hn : c.n = 4) (hb : c.b = exB) : startS c = exS := by
  simp [startS, valTo, RC.byte, hn, hb, exB, exS]
theorem ex_get : getF exS 32 = 1 := by decide
theorem ex_one (c : RC) : oneS c exS 32 = exS1 := by
  unfold oneS
  rw [ex_get]
  rfl
theorem ex_ok : RsOk exS := ⟨by decide, by decide, by decide, by decide⟩
theorem ex_left (c : RC) (hn : c.n = 4) : exS1.left c = 8 := by
  unfold RS.left
  rw [hn]
  rfl
def silF : Nat → Int := headF zeroF 1
theorem sil_at (i : Nat) (hi : i < 94) : silF i = updI zeroF 0 1 i := by
  unfold silF headF updI zeroF
  by_cases h0 : i = 0
  · subst h0; rfl
  · by_cases h1 : i = 1
    · subst h1; rfl
    · by_cases h2 : i = 2
      · subst h2; rfl
      · simp [h0, h1, h2]
theorem prev10 : (ag i64t 10 fun _ => 0) = #[.int .i64 0, .int .i64 0, .int .i64 0, .int .i64 0, .int .i64 0, .int .i64 0, .int .i64 0, .int .i64 0, .int .i64 0, .int .i64 0] := rfl
set_option maxHeartbeats 4000000 in
set_option maxRecDepth 100000 in
theorem awake16 (w : World) : Calls Tryd.prog 11 #[] w fun e w' => e = .returned (.bool true) ∧ Below w.heap.size w w' := by
  have hq := Lib.hid (fun w => frameQuick w)
  have hp := Lib.hid (fun w => framePlain w)
  have hnw := Lib.hid (fun A n cap b hn w h hA => rdNew A n cap b hn w h hA)
  have hrs := Lib.hid (fun c tt tx h16 hs hleft hk hk1 hr1 hn w h => readSil c exS ex_ok tt tx 0 1 (by unfold RightP; omega) (fun _ => 0) h16 hs exS1 (ex_one c) hleft hk hk1 hr1 hn w h)
  rw [prev10, ex_get] at hrs
  go_enter Tryd.func11, Tryd.ntmps11
  go_wp2_with fail
  refine (hq.out _).mono ?_
  rintro e w1 ⟨tb, hb, sh, rfl, htb, hT, hS, hb1⟩
  have HB1 := Lib.hid hb1
  clear hT hS hb1 htb hq
  go_wp2_with fail
  refine (hp.out _).mono ?_
  rintro e w2 ⟨b, m, rfl, hbs, hms, hB, hb2⟩
  have HB2 := Lib.hid (HB1.out.trans (hb2.mono HB1.out.size))
  clear hbs hms hB hb2 hp HB1
  go_wp2_with fail
  have hs2 := HB2.out.size
  refine (hnw.out (some ⟨w2.heap.size, 0, none⟩) 4 4 exB (by omega) _ (fun _ => ⟨w2.heap.size, 0, rfl, by simp, fun i hi => ?_⟩) (fun h => by cases h)).mono ?_
  · have hc := (block_facts (alloc_at w2 (.cells #[.int .u8 8, .int .u8 0, .int .u8 0, .int .u8 0] 5 (0, 0)))).1 (0 + i)
    rw [hc]
    rcases (show i = 0 ∨ i = 1 ∨ i = 2 ∨ i = 3 by omega) with h | h | h | h <;> subst h <;> exact ⟨rfl, by decide, by decide⟩
  rintro e w3 ⟨c, rfl, hcn, hcb, hcr, hcg, hR, hb3⟩
  rw [ex_start c hcn hcb] at hR
  have HR := Lib.hid hR
  have hcr2 : w.heap.size ≤ c.rb := by simp at hcr; omega
  have HB3 := Lib.hid (HB2.out.trans (Below.mono (B := w2.heap.size) ((Below.alloc (Below.refl _ _) (Nat.le_refl _) _).trans (hb3.mono (by simp))) hs2))
  have HLF := Lib.hid (ex_left c hcn)
  have HCN := Lib.hid hcn
  clear hR hb3 hcn hcb hcr hcg HB2 hs2 hnw
  go_wp2_with fail
  refine (hrs.out c _ _ (by omega) (by decide) (by rw [HLF.out]; decide) (by decide) (by decide) (by decide) (by have := HCN.out; omega) w3 HR.out).mono ?_
  rintro e w4 ⟨rfl, hR4, hc4⟩
  have HB4 := Lib.hid (HB3.out.trans (hc4.toBelow HB3.out.size (fun k hk => by simp only [List.mem_singleton] at hk; omega)))
  clear hR4 hc4 hrs HB3 HR HLF HCN hcr2
  go_upto_region 5 with (refine wpList_store_mid rfl TFr _ _ rfl w4.heap.size 0 (av 94 (frC silF)) rfl rfl ?hth ?hin3 ?hon ?_; (case hth => exact there_row (alloc_at _ _) _ (by rw [zeroFr_eq, av_size, av_size]; exact Nat.le_refl _)); (case hin3 => rw [av_size]; exact infoFr); (case hon => exact fr_one silF))
  have q1 := cells_all (alloc_at w4 (.cells Tryd.zeroCells35 TFr (0, 0))) (N := 94) (by rw [zeroFr_eq, av_size]) (cs := av 94 (frC silF)) (av_size _ _)
  have q2 : Below w4.heap.size w4 ((w4.alloc (.cells Tryd.zeroCells35 TFr (0, 0))).setCells w4.heap.size 0 (av 94 (frC silF)).toList) := (only_setCells (w4.alloc (.cells Tryd.zeroCells35 TFr (0, 0))) w4.heap.size 0 (av 94 (frC silF)).toList).below (by (repeat' (first | (with_reducible exact Below.refl _ _) | (with_reducible assumption) | (with_reducible refine Below.alloc ?_ ?_ _) | (with_reducible refine below_grew ?_ ?_ _) | (with_reducible refine Below.setCell ?_ ?_ _) | (with_reducible refine Below.drew ?_) | (with_reducible refine below_drewN ?_ _) | omega | (simp; done) | (simp; omega)))) (Nat.le_refl _)
  refine cut_world (fun W => Bv w4.heap.size TFr 94 (frC silF) W ∧ Below w.heap.size w W) ⟨q1, HB4.out.trans (Below.mono (B := w4.heap.size) q2 HB4.out.size)⟩ ?_
  clear q1 q2 HB4
  generalize w4.heap.size = fb at *
  rintro V ⟨hf, hV⟩
  have HF := Lib.hid hf
  have HV := Lib.hid hV
  have heq := fun w => eqFr_yes silF (updI zeroF 0 1) sil_at w
  clear hf hV
  go_wp2_with (first | ((with_reducible refine gate_ld TFr _ rfl ?_); refine load_row_g rfl TFr _ rfl fb rfl _ (av 94 (frC silF)) (0, 0) _ HF.out Tryd.underlying35 rfl (by rw [av_size]; exact infoFr) ?_) | (refine build_to_g rfl TFr _ rfl (av 94 (frC (updI zeroF 0 1))) (by kernel_rfl) ?_))
  go_ret
  exact ⟨rfl, HV.out⟩
end Go.Proofs.YtbcdnbbpkikppaaDoor
end

